import Derived.Test.YtojhdmfkfkfcbaaGreatDoorMG
import Derived.Test.YtojhdmfkfkfcbaaGreatDoorMC
import Derived.Test.YtojhdmfkfkfcbaaGreatDoorME
import Derived.Test.YtojhdmfkfkfcbaaGreatDoorShelf
import Derived.Test.YtojhdmfkfkfcbaaGreatDoorMD
import Derived.Test.YtojhdmfkfkfcbaaGreatDoorSxF
import Derived.Handed
import Derived.Shelf.Vars
import Derived.Test.YtojhdmfkfkfcbaaGreatDoorMF
import Derived.Test.YtojhdmfkfkfcbaaGreatDoorMA
namespace Go.Proofs.YtojhdmfkfkfcbaaGreatDoor
open Go.Sx
set_option linter.unusedVariables false
set_option linter.unusedSimpArgs false
set_option maxRecDepth 100000
def QQ {α:Type} (s:ByteArray) (p:α->Prop):Except (Int×Int) (Nat×α)->Prop
 | .ok (_,x)=>p x
 | .error e=>0≤e.1∧e.1≤s.size
section
variable {s:ByteArray} {l:List Tok} (H:oW s l)
theorem dx {α β:Type} {p:α->Prop} {q:β->Prop} {r:Except (Int×Int) (Nat×α)} {k:Nat->α->Except (Int×Int) (Nat×β)} (h1:QQ s p r) (h2:∀n a,p a->QQ s q (k n a)):QQ s q (bnd r k):=by
 rcases r with e | ⟨n,a⟩
 ·exact h1
 ·exact h2 n a h1
theorem WJ {α:Type} {p q:α->Prop} {r:Except (Int×Int) (Nat×α)} (h:QQ s p r) (hq:∀x,p x->q x):QQ s q r:=by
 rcases r with e | ⟨n,a⟩
 ·exact h
 ·exact hq a h
theorem qq0 {α:Type} {p:α->Prop} {k:Int}:QQ (α:=α) s p (.error (0,k)):=⟨Int.le_refl _,by omega⟩
include H
theorem lN {α:Type} {p:α->Prop} (n:Nat) (k:Int):QQ (α:=α) s p (.error (atV s l n,k)):=by
 show 0≤atV s l n∧atV s l n≤s.size
 unfold atV
 split
 ·rename_i hn
  have:=H.get hn
  omega
 ·omega
abbrev TT {α:Type}:α->Prop:=fun _=>True
theorem Zc {n:Nat}:QQ s (fun x=>x=txV s l n) (nmV s l n):=by
 unfold nmV
 split
 ·exact rfl
 ·exact lN H _ _
theorem lg {n:Nat}:QQ s TT (nmV s l n):=WJ (Zc H) fun _ _=>trivial
theorem tJ {n:Nat} {b:UInt8}:QQ s TT (dO s l n b):=by
 unfold dO
 split
 ·exact tR
 ·exact lN H _ _
theorem M4 {α:Type} {p:α->Prop} {b:UInt8} {r:Except (Int×Int) (Nat×α)} (h:QQ s p r):QQ s p (j6 s l b r):=by
 rw[Oq]
 exact dx h fun n x hx=>dx (tJ H) fun n _ _=>hx
theorem Iw:∀(f n k:Nat) (o:List ByteArray),QQ s TT (kS s l f n k o)
 | 0,n,k,o=>qq0
 | f+1,n,k,o=>by
  rw[kS]
  split
  ·split
   ·exact lN H _ _
   ·split
    ·exact Iw f _ _ _
    ·exact tR
  ·exact lN H _ _
theorem M5 {n:Nat}:QQ s TT (iL s l n):=by
 unfold iL
 split
 ·split
  ·exact tR
  ·exact M4 H (Iw H _ _ _ _)
 ·exact lN H _ _
def KK (a:Int) (d:ByteArray) (x:Ins):Prop:=x.at_=a∧x.dst=d
variable {a:Int} {d:ByteArray}
theorem yK {n:Nat} {x:Ins} (h:KK a d x):QQ s (KK a d) (kT s l n x):=dx (lg H) fun n _ _=>h
theorem Pk {n:Nat} {x:Ins} (h:KK a d x):QQ s (KK a d) (mG s l n x):=dx (lg H) fun n _ _=>h
theorem F8 {n:Nat} {x:Ins} (h:KK a d x):QQ s (KK a d) (sG s l n x):=dx (lg H) fun n _ _=>h
theorem M6:∀(f n k:Nat) (x:Ins),KK a d x->QQ s (KK a d) (kU s l f n k x)
 | 0,n,k,x,h=>qq0
 | f+1,n,k,x,h=>by
  rw[kU]
  split
  ·exact lN H _ _
  ·refine dx (p:=KK a d) (dx (lg H) fun n _ _=>dx (tJ H) fun n _ _=>dx (lg H) fun n _ _=>h) fun n y hy=>?_
   split
   ·exact M6 f _ _ _ hy
   ·exact hy
theorem Yo {n:Nat} {x:Ins} {w:List UInt8} (h:KK a d x):QQ s (KK a d) (Cw s l n x w):=by
 have h0:∀k:Int,KK a d ({x with kind:=k}:Ins):=fun k=>h
 unfold Cw
 split
 ·unfold qp;split
  ·exact h
  ·exact lN H _ _
 split
 ·exact dx (F8 H (h0 4)) fun n y hy=>Pk H hy
 split
 ·exact dx (F8 H (h0 5)) fun n y hy=>Pk H hy
 split
 ·exact F8 H (h0 8)
 split
 ·exact dx (F8 H (h0 7)) fun n y hy=>dx (M5 H) fun n o _=>hy
 split
 ·exact dx (Pk H (h0 10)) fun n y hy=>F8 H hy
 split
 ·exact dx (tJ H) fun n _ _=>M4 H (M6 H _ _ _ _ (h0 3))
 ·exact lN H _ _
theorem WK {n:Nat} {x:Ins} (h:KK a d x):QQ s (KK a d) (dM s l n x):=by
 unfold dM
 split
 ·exact dx (yK H (x:={x with kind:=2,op:=_}) h) fun n y hy=>yK H hy
 ·exact Yo H h
theorem aaQ {w:List UInt8} {f:Nat->Ins->Except (Int×Int) (Nat×Ins)} (hf:qw s l w=some f) {n:Nat} {x:Ins} (h:KK a d x):QQ s (KK a d) (f n x):=by
 unfold qw at hf
 split at hf
 ·obtain rfl:=adl hf
  exact dx (lg H) fun n r _=>dx (yK H (x:={{x with kind:=6} with ref:=r}) h) fun n y hy=>dx (yK H hy) fun n y hy=>hy
 split at hf
 ·obtain rfl:=adl hf
  exact dx (lg H) fun n r _=>dx (yK H (x:={{x with kind:=9} with ref:=r}) h) fun n y hy=>hy
 split at hf
 ·obtain rfl:=adl hf
  exact dx (lg H) fun n r _=>h
 split at hf
 ·obtain rfl:=adl hf
  exact dx (yK H (x:={x with kind:=12}) h) fun n y hy=>dx (lg H) fun n _ _=>dx (lg H) fun n _ _=>hy
 split at hf
 ·obtain rfl:=adl hf
  exact dx (yK H (x:={x with kind:=13}) h) fun n y hy=>hy
 ·cases hf
def PI (s:ByteArray) (l:List Tok) (n:Nat) (x:Ins):Prop:=x.at_=atV s l n∧(0<x.dst.size->x.dst=txV s l n)
theorem WL {n c:Nat}:QQ s (PI s l n) (bN s l n c):=by
 unfold bN
 split
 ·exact lN H _ _
 split
 ·exact lN H _ _
 split
 ·exact lN H _ _
 split
 ·rename_i f hf
  exact WJ (aaQ H hf (a:=atV s l n) (d:=.empty) ⟨rfl,rfl⟩) fun y hy=>⟨hy.1,fun h=>by rw[hy.2] at h;exact absurd h (by decide)⟩
 ·refine dx (Zc H) fun n1 d hd=>dx (tJ H) fun n2 _ _=>?_
  exact WJ (WK H (a:=atV s l n) (d:=d) ⟨rfl,rfl⟩) fun y hy=>⟨hy.1,fun _=>by rw[hy.2,hd]⟩
def Chn (s:ByteArray) (l:List Tok):Nat->List Ins->Nat->Prop
 | lo,[],hi=>lo≤hi
 | lo,x::xs,hi=>∃k,lo≤k∧k<l.length∧PI s l k x∧Chn s l (k+1) xs hi
omit H in
theorem Chn.low {lo lo':Nat} (h:lo'≤lo):∀{xs:List Ins} {hi:Nat},Chn s l lo xs hi->Chn s l lo' xs hi
 | [],hi,h1=>Nat.le_trans h h1
 | x::xs,hi,⟨k,h1,h2⟩=>⟨k,Nat.le_trans h h1,h2⟩
theorem F9:∀{f n c:Nat} {xs:List Ins},n≤l.length->QQ s TT (codeF s l f n c xs)∧∀{n' c':Nat} {ys:List Ins},codeF s l f n c xs=.ok (n',(c',ys))->∃zs,ys=xs++zs∧Chn s l n zs n'
 | 0,n,c,xs,hn=>⟨qq0,fun h=>by simp [codeF] at h⟩
 | f+1,n,c,xs,hn=>by
  rw[codeF]
  split
  ·refine⟨tR,fun h=>?_⟩
   simp only[Except.ok.injEq,adq] at h
   obtain⟨rfl,rfl,rfl⟩:=h
   exact⟨[],(List.append_nil _).symm,Nat.le_refl _⟩
  ·have hq:=WL H (n:=n) (c:=c)
   rcases hV:bN s l n c with e | ⟨n1,x⟩
   ·rw[hV] at hq
    exact⟨hq,fun h=>by cases h⟩
   ·rw[hV] at hq
    obtain⟨u1,u2⟩:=EY _ _ hV
    obtain⟨g1,g2⟩:=F9 (f:=f) (n:=n1) (c:=c+1) (xs:=xs++[x]) u2
    refine⟨g1,fun h=>?_⟩
    obtain⟨zs,e,hc⟩:=g2 h
    exact⟨x::zs,by rw[e,List.append_assoc];rfl,n,Nat.le_refl _,by omega,hq,hc.low (by omega)⟩
def ChB (s:ByteArray) (l:List Tok):Nat->List Blk->Nat->Prop
 | lo,[],hi=>lo≤hi
 | lo,b::bs,hi=>∃k m,lo≤k∧k<l.length∧b.at_=atV s l k∧Chn s l (k+1) b.code m∧ChB s l m bs hi
omit H in
theorem ChB.low {lo lo':Nat} (h:lo'≤lo):∀{xs:List Blk} {hi:Nat},ChB s l lo xs hi->ChB s l lo' xs hi
 | [],hi,h1=>Nat.le_trans h h1
 | x::xs,hi,⟨k,m,h1,h2⟩=>⟨k,m,Nat.le_trans h h1,h2⟩
theorem C8 {n c:Nat}:QQ s TT (gD s l n c)∧∀{n' c':Nat} {b:Blk},gD s l n c=.ok (n',(c',b))->b.at_=atV s l n∧n<l.length∧Chn s l (n+1) b.code n':=by
 rw[Pb]
 have q1:=lg H (n:=n)
 rcases h1:nmV s l n with e | ⟨n1,nm⟩
 ·rw[h1] at q1;exact⟨q1,fun h=>by cases h⟩
 obtain⟨u1,u2⟩:=ou _ _ h1
 simp only[bnd]
 have q2:=tJ H (n:=n1) (b:=58)
 rcases h2:dO s l n1 58 with e | ⟨n2,u⟩
 ·rw[h2] at q2;exact⟨q2,fun h=>by cases h⟩
 obtain⟨u3,u4⟩:=sI _ _ h2
 simp only
 obtain⟨q3,q4⟩:=F9 H (f:=4098) (n:=n2) (c:=c) (xs:=[]) u4
 rcases h3:codeF s l 4098 n2 c [] with e | ⟨n3,c3,ys⟩
 ·rw[h3] at q3;exact⟨q3,fun h=>by cases h⟩
 refine⟨tR,fun h=>?_⟩
 obtain⟨zs,e,hc⟩:=q4 h3
 simp only[Except.ok.injEq,adq] at h
 obtain⟨rfl,rfl,rfl⟩:=h
 rw[List.nil_append] at e
 subst e
 exact⟨rfl,by omega,hc.low (by omega)⟩
theorem Ac:∀{f n c:Nat} {bs:List Blk},c≤4096->QQ s TT (gJ s l f n c bs)∧∀{n' c':Nat} {ys:List Blk},gJ s l f n c bs=.ok (n',(c',ys))->∃zs,ys=bs++zs∧ChB s l n zs n'
 | 0,n,c,bs,hc=>⟨qq0,fun h=>by simp [gJ] at h⟩
 | f+1,n,c,bs,hc=>by
  rw[gJ]
  split
  ·split
   ·exact⟨lN H _ _,fun h=>by cases h⟩
   ·obtain⟨q1,q2⟩:=C8 H (n:=n) (c:=c)
    rcases hV:gD s l n c with e | ⟨n1,c1,b⟩
    ·rw[hV] at q1
     exact⟨q1,fun h=>by cases h⟩
    ·obtain⟨r1,r2,r3⟩:=q2 hV
     obtain⟨g1,g2⟩:=Ac (f:=f) (n:=n1) (c:=c1) (bs:=bs++[b]) (qR hc hV).2.2
     refine⟨g1,fun h=>?_⟩
     obtain⟨zs,e,hz⟩:=g2 h
     exact⟨b::zs,by rw[e,List.append_assoc];rfl,n,n1,Nat.le_refl _,r2,r1,r3,hz⟩
  ·refine⟨tR,fun h=>?_⟩
   simp only[Except.ok.injEq,adq] at h
   obtain⟨rfl,rfl,rfl⟩:=h
   exact⟨[],(List.append_nil _).symm,Nat.le_refl _⟩
def ChF (s:ByteArray) (l:List Tok) (f:Fun):Prop:=∃k hi,k<l.length∧(txV s l k).data.toList=[102,110]∧f.at_=atV s l k∧ChB s l (k+1) f.blocks hi
theorem Pm {n c:Nat} (hc:c≤4096):QQ s TT (lF s l n c)∧∀{n' c':Nat} {f:Fun},lF s l n c=.ok (n',(c',f))->∃hi,f.at_=atV s l n∧ChB s l (n+1) f.blocks hi:=by
 rw[TR]
 have q1:=lg H (n:=n+1)
 rcases h1:nmV s l (n+1) with e | ⟨n1,nm⟩
 ·rw[h1] at q1;exact⟨q1,fun h=>by cases h⟩
 obtain⟨u1,u2⟩:=ou _ _ h1
 simp only[bnd]
 have q2:=M5 H (n:=n1)
 rcases h2:iL s l n1 with e | ⟨n2,ps⟩
 ·rw[h2] at q2;exact⟨q2,fun h=>by cases h⟩
 obtain⟨u3,u4⟩:=zB _ _ h2
 simp only
 have q3:=tJ H (n:=n2) (b:=123)
 rcases h3:dO s l n2 123 with e | ⟨n3,u⟩
 ·rw[h3] at q3;exact⟨q3,fun h=>by cases h⟩
 obtain⟨u5,u6⟩:=sI _ _ h3
 simp only
 obtain⟨q4,q5⟩:=C8 H (n:=n3) (c:=c)
 rcases h4:gD s l n3 c with e | ⟨n4,c4,b⟩
 ·rw[h4] at q4;exact⟨q4,fun h=>by cases h⟩
 obtain⟨b1,b2,b3⟩:=q5 h4
 obtain⟨u7,u8,u9⟩:=qR hc h4
 simp only
 obtain⟨q6,q7⟩:=Ac H (f:=65) (n:=n4) (c:=c4) (bs:=[b]) u9
 rcases h5:gJ s l 65 n4 c4 [b] with e | ⟨n5,c5,q⟩
 ·rw[h5] at q6;exact⟨q6,fun h=>by cases h⟩
 obtain⟨zs,e,hz⟩:=q7 h5
 simp only
 have q8:=tJ H (n:=n5) (b:=125)
 rcases h6:dO s l n5 125 with e | ⟨n6,u⟩
 ·rw[h6] at q8;exact⟨q8,fun h=>by cases h⟩
 refine⟨tR,fun h=>?_⟩
 simp only[Except.ok.injEq,adq] at h
 obtain⟨rfl,rfl,rfl⟩:=h
 subst e
 exact⟨n5,rfl,n3,n4,by omega,b2,b1,b3,hz⟩
theorem aaR {n:Nat}:QQ s TT (wT s l n):=by
 unfold wT
 refine dx (lg H) fun n1 nm _=>?_
 split
 ·split
  ·exact lN H _ _
  ·exact dx (lg H) fun n2 lv _=>trivial
 ·exact lN H _ _
theorem yL:∀{f n c:Nat} {p:Prg},c≤4096->(∀f,f∈p.funcs->ChF s l f)->QQ s (fun q:Prg=>∀f,f∈q.funcs->ChF s l f) (oz s l f n c p)
 | 0,n,c,p,hc,hp=>qq0
 | f+1,n,c,p,hc,hp=>by
  rw[oz]
  split
  ·rename_i hlt
   split
   ·split
    ·exact lN H _ _
    ·refine dx (aaR H) fun n1 x _=>?_
     exact yL (p:=⟨p.arrays++[x],p.funcs⟩) hc hp
   ·split
    ·rename_i hw
     split
     ·exact lN H _ _
     ·obtain⟨q1,q2⟩:=Pm H (n:=n) hc
      rcases hV:lF s l n c with e | ⟨n1,c1,x⟩
      ·rw[hV] at q1;exact q1
      ·obtain⟨hi,e1,e2⟩:=q2 hV
       refine yL (p:=⟨p.arrays,p.funcs++[x]⟩) (Qk hc hV).2.2 fun g hg=>?_
       rcases List.mem_append.1 hg with hg | hg
       ·exact hp g hg
       ·obtain rfl:=List.mem_singleton.1 hg
        exact⟨n,hi,hlt,hw,e1,e2⟩
    ·exact lN H _ _
  ·exact hp
end
theorem Yp {s:ByteArray}:0≤(eU s).2.1∧(eU s).2.1≤s.size:=by
 rcases Nat.lt_or_ge 65536 s.size with h1 | h1
 ·rw[eU,if_pos h1];exact⟨Int.le_refl _,Int.natCast_nonneg _⟩
 rcases Ir s with hb | hb
 ·obtain⟨l,r,hr⟩:=Ph s s.size 0 (by omega) (Nat.zero_le _)
  rw[M0 h1 hb hr]
  split
  ·exact⟨Int.le_refl _,Int.natCast_nonneg _⟩
  ·rename_i h4
   have TW:∀{l:List Tok} {a:Nat} {r:Int×Int},a≤s.size->Run s a l r->0≤r.1∧r.1≤s.size:=fun {l}=>by
    induction l with
    | nil=>
     intro a r ha h
     have hle:=ER s s.size false a (by omega) ha
     have e:=h.1
     unfold gP at e
     split at e
     ·subst e;exact⟨Int.natCast_nonneg _,Int.le_refl _⟩
     ·split at e
      ·subst e;exact absurd rfl h.2
      ·split at e
       ·subst e;exact⟨Int.natCast_nonneg _,by show ((skV s false a:Nat):Int)≤_;omega⟩
       ·subst e;exact absurd rfl h.2
    | cons t l ih=>
     intro a r ha ⟨g1,g2,g3,g4,g5⟩
     exact ih (by omega) g5
   exact TW (Nat.zero_le _) hr
 ·rw[MZ h1 hb.1]
  exact⟨hb.1,by show dQ s s.size 0≤_;omega⟩
theorem M7 (s:ByteArray):(0≤(bX s).2.1∧(bX s).2.1≤s.size)∧((bX s).2.2=0->(eU s).2.2=0∧∀f,f∈(bX s).1.funcs->ChF s (eU s).1 f):=by
 unfold bX
 split
 ·rename_i h0
  have H:=E5 s (A8 h0)
  have hp:=yL H (f:=(eU s).1.length+1) (n:=0) (c:=0) (p:=⟨[],[]⟩) (Nat.zero_le _) (fun f hf=>by cases hf)
  rcases hV:oz s (eU s).1 ((eU s).1.length+1) 0 0 ⟨[],[]⟩ with⟨a,e⟩ | ⟨n,q⟩
  ·rw[hV] at hp
   exact⟨hp,fun _=>⟨h0,fun f hf=>by cases hf⟩⟩
  ·rw[hV] at hp
   exact⟨⟨Int.le_refl _,Int.natCast_nonneg _⟩,fun _=>⟨h0,hp⟩⟩
 ·rename_i h0
  exact⟨Yp,fun h=>absurd h h0⟩
def Zd (c:Nat):Bool:=decide (c<128)&&!qo c&&!uf c
def aaS (y:ByteArray):Prop:=y.size=0∨0<y.size∧Zd (bt y 0)=true
inductive Txt:List (Int×ByteArray)->ByteArray->Prop
 | nil:Txt [] .empty
 | blank (b:ByteArray) (hb:b=⟨#[32]⟩∨b=⟨#[10]⟩) {l:List (Int×ByteArray)} {y:ByteArray} (h:Txt l y):Txt l (b++y)
 | tok {k:Int} {w:ByteArray} {l:List (Int×ByteArray)} {y:ByteArray} (hp:Pc k w) (hs:k=4∨aaS y) (h:Txt l y):Txt ((k,w)::l) (w++y)
def TxH (l:List (Int×ByteArray)) (y:ByteArray):Prop:=∀m z,Txt m z->Txt (l++m) (y++z)
def TxS (l:List (Int×ByteArray)) (y:ByteArray):Prop:=∀m z,Txt m z->aaS z->Txt (l++m) (y++z)
def Beg (y:ByteArray):Prop:=0<y.size∧Zd (bt y 0)=true
theorem Beg.app {y:ByteArray} (h:Beg y) (z:ByteArray):Beg (y++z):=⟨by rw[bF];have:=h.1;omega,by rw[eO h.1];exact h.2⟩
theorem Beg.soft {y:ByteArray} (h:Beg y):aaS y:=.inr h
theorem TxH.weak {l:List (Int×ByteArray)} {y:ByteArray} (h:TxH l y):TxS l y:=fun m z hz _=>h m z hz
theorem TxH.app {l m:List (Int×ByteArray)} {y z:ByteArray} (h:TxH l y) (k:TxH m z):TxH (l++m) (y++z):=fun n x hx=>by
 rw[List.append_assoc,Iu];exact h _ _ (k _ _ hx)
theorem TxS.app {l m:List (Int×ByteArray)} {y z:ByteArray} (h:TxS l y) (k:TxH m z) (hb:Beg z):TxH (l++m) (y++z):=fun n x hx=>by
 rw[List.append_assoc,Iu];exact h _ _ (k _ _ hx) (hb.app x).soft
instance (k : Int) (w : ByteArray) : Decidable (Pc k w) := by unfold Pc; exact inferInstance
theorem za (l:List UInt8):(ba l).size=l.length:=by show l.toArray.size=l.length;simp
abbrev Tks:=List (Int×ByteArray)
def hdT:Tks->ByteArray
 | []=>.empty
 | (_,w)::_=>w
def AtT (s:ByteArray) (l:List Tok) (n:Nat) (T:Tks):Prop:=n≤l.length∧(l.map (tx s)).drop n=T
section
variable {s:ByteArray} {l:List Tok} {n:Nat} {T:Tks}
theorem AtT.of (h:l.map (tx s)=T):AtT s l 0 T:=⟨Nat.zero_le _,by rw[List.drop_zero];exact h⟩
theorem AtT.len (h:AtT s l n T):l.length=n+T.length:=by
 have:=congrArg List.length h.2
 simp only[List.length_drop,List.length_map] at this
 have:=h.1
 omega
theorem AtT.hd {k:Int} {w:ByteArray} (h:AtT s l n ((k,w)::T)):n<l.length∧(l.getD n lX).k=k∧txV s l n=w∧AtT s l (n+1) T:=by
 have hl:=h.len
 rw[List.length_cons] at hl
 have hn:n<l.length:=by omega
 have h2:=h.2
 have hn':n<(l.map (tx s)).length:=by rw[List.length_map];exact hn
 rw[List.drop_eq_getElem_cons hn'] at h2
 obtain⟨e1,e2⟩:=List.cons.inj h2
 rw[List.getElem_map] at e1
 have e3:l.getD n lX=l[n]:=by rw[adf,adh hn];rfl
 refine⟨hn,?_,?_,by omega,e2⟩
 ·rw[e3];exact congrArg Prod.fst e1
 ·unfold txV
  rw[if_pos hn,e3]
  exact congrArg Prod.snd e1
theorem AtT.app:∀{A:Tks} {n:Nat},AtT s l n (A++T)->AtT s l (n+A.length) T
 | [],n,h=>h
 | (k,w)::A,n,h=>by
  have:=AtT.app (A:=A) h.hd.2.2.2
  rw[List.length_cons]
  rwa [show n+1+A.length=n+(A.length+1) by omega] at this
theorem AtT.text (h:AtT s l n T):txV s l n=hdT T:=by
 match T,h with
 | [],h=>
  have:=h.len
  unfold txV
  rw[if_neg (by simp at this;omega)]
  rfl
 | (k,w)::T,h=>exact h.hd.2.2.1
theorem AtT.kind {k k2:Int} {w:ByteArray} (h:AtT s l n ((k,w)::T)):isV l n k2=decide (k=k2):=by
 unfold isV
 rw[decide_eq_true h.hd.1,h.hd.2.1]
 rfl
theorem AtT.is {k:Int} {w:ByteArray} (h:AtT s l n ((k,w)::T)):isV l n k=true:=by rw[h.kind];simp
end
def cN (bs:List Blk):Nat:=(bs.map fun b=>b.code.length).sum
theorem Yq {a:Arr} (h:kK a=true):(Ql a).size≤300:=by
 unfold kK at h
 simp only[adt,adw,adr,Bool.not_eq_false'] at h
 obtain⟨⟨⟨h1,h2⟩,h3⟩,h4⟩:=h
 have s1:=kV h1
 have s2:=kV h2
 have s3:=HZ (n:=a.size) (by unfold ak;omega)
 unfold Ql
 rw[acQ,bF,bF,bF,bF,bF,bF]
 show 5+(1+(_+(1+(_+(1+_)))))≤_
 omega
structure BlkR (b:Blk):Prop where
 name:okN b.name=true
 code:∀x,x∈b.code->bS x=true
 few:b.code.length≤4096
structure FunR (f:Fun):Prop where
 name:okN f.name=true
 params:dZ f.params=true
 aax:f.params.length≤6
 Yb:f.blocks.length≤64
 blocks:∀b,b∈f.blocks->BlkR b
structure PrgR (p:Prg):Prop where
 yw:p.arrays.length≤16
 zC:p.funcs.length≤64
 arrays:∀a,a∈p.arrays->kK a=true
 funcs:∀f,f∈p.funcs->FunR f
theorem TY {p:Prg} (h:rightG p=true):PrgR p:=by
 unfold rightG at h
 simp only[adg,adt,adw,adr,adn,List.all_eq_true] at h
 obtain⟨⟨⟨⟨h1,h2⟩,h3⟩,h4⟩,h5⟩:=h
 refine⟨by omega,by omega,h3,fun f hf=>?_⟩
 have hk:=h4 f hf
 unfold kL at hk
 simp only[adg,adt,adw,adr,Bool.not_eq_false',List.all_eq_true] at hk
 obtain⟨⟨⟨⟨⟨k1,k2⟩,k3⟩,k4⟩,k5⟩,k6⟩:=hk
 refine⟨k1,k2,by omega,by omega,fun b hb=>?_⟩
 have hq:=k6 b hb
 unfold oC at hq
 simp only[adg,List.all_eq_true] at hq
 refine⟨hq.1,hq.2,?_⟩
 have s1:b.code.length≤fN f:=Qr (List.mem_map.2 ⟨b,hb,rfl⟩)
 have s2:fN f≤iF p.funcs:=Qr (l:=p.funcs.map fN) (List.mem_map.2 ⟨f,hf,rfl⟩)
 omega
theorem Pn {k:Int} {q:Int×Bool×Bool×Bool} (h:jm k=some q):1≤k∧k≤13:=by
 refine Classical.byContradiction fun hk=>?_
 unfold jm at h
 rw[if_neg (by omega),if_neg (by omega),if_neg (by omega),if_neg (by omega),if_neg (by omega),if_neg (by omega),if_neg (by omega),if_neg (by omega),if_neg (by omega),if_neg (by omega),if_neg (by omega),if_neg (by omega)] at h
 cases h
theorem Po {x:Ins} (h:bS x=true):1≤x.kind∧x.kind≤13:=by
 rcases jr h with⟨h1,_⟩ | ⟨n,d,r,a,e,_,_⟩
 ·omega
 ·exact Pn e
theorem WM {x:Ins} (h:bS x=true):0≤x.op∧x.op<13:=by
 rcases jr h with⟨_,hp⟩ | ⟨n,d,r,a,e,_,hi,ho⟩
 ·have:=hp.op;omega
 ·by_cases hk:x.kind=2
  ·have:=ho hk
   refine Classical.byContradiction fun hc=>this ?_
   unfold opName
   by_cases h13:13≤x.op
   ·rw[if_pos h13];rfl
   ·rw[if_neg h13,show x.op.toNat=0 by omega];rfl
  ·have:x.op=0:=Classical.byContradiction fun hc=>hk (hi.op.1 hc)
   omega
theorem T9 {x:Ins} (h:bS x=true) (hn:ak x.num):aav x:=by
 have hk:=Po h
 have ho:=WM h
 obtain⟨s1,s2,s3,s4,s5,s6,s7⟩:=LD h
 refine⟨by omega,by omega,by unfold okL;omega,by unfold okL;omega,by unfold okL;omega,by unfold JI;omega,by unfold JI;omega,fun a ha=>by have:=s4 a ha;unfold okL;omega,fun a ha=>by have:=s5 a ha;unfold okL;omega,hn⟩
theorem nO {p:Prg} (h:rightG p=true) (hn:∀f,f∈p.funcs->∀b,b∈f.blocks->∀x,x∈b.code->ak x.num):OU p:=by
 obtain⟨r1,r2,r3,r4⟩:=TY h
 refine⟨by unfold ug;omega,fun a ha=>?_,by unfold ug;omega,fun f hf=>?_⟩
 ·have hk:=r3 a ha
  unfold kK at hk
  simp only[adt,adw,adr,Bool.not_eq_false'] at hk
  obtain⟨⟨⟨h1,h2⟩,h3⟩,h4⟩:=hk
  have s1:=kV h1
  have s2:=kV h2
  exact⟨by unfold okL;omega,by unfold okL;omega,by unfold ak;omega⟩
 ·obtain⟨f1,f2,f3,f4,f5⟩:=r4 f hf
  have s1:=kV f1
  refine⟨by unfold okL;omega,by unfold JI;omega,fun a ha=>by have:=Ba f2 a ha;unfold okL;omega,by unfold ug;omega,fun b hb=>?_⟩
  obtain⟨b1,b2,b3⟩:=f5 b hb
  have s2:=kV b1
  exact⟨by unfold okL;omega,by unfold ug;omega,fun x hx=>T9 (b2 x hx) (hn f hf b hb x hx)⟩
theorem WO {s:ByteArray}:∀{l:List Tok} {a:Nat} {r:Int×Int},a≤s.size->Run s a l r->∀t,t∈l->Pc t.k (s.extract t.f.toNat t.t.toNat)
 | [],a,r,_,_,t,ht=>by cases ht
 | q::l,a,r,ha,h,t,ht=>by
  obtain⟨h1,h2,h3,h4,h5⟩:=h
  rcases List.mem_cons.1 ht with rfl | ht
  ·exact ac4 ha h1
  ·exact WO (by omega) h5 t ht
theorem Ua (s:ByteArray):ak (eT s).1:=by
 unfold eT ak
 dsimp only
 split
 ·dsimp only;omega
 ·split
  ·dsimp only;omega
  ·split
   ·rename_i h
    dsimp only;omega
   ·split
    ·rename_i h
     dsimp only;omega
    ·dsimp only;omega
theorem Yr {b:ByteArray} (h:kindOf b=1):okN b=true:=by
 unfold kindOf at h
 split at h
 ·cases h
 ·rename_i hw
  split at h
  ·rename_i hn
   unfold okN
   rw[hn]
   simpa using hw
  ·split at h<;>cases h
def JY (s:ByteArray) (l:List Tok):Prop:=∀n,isV l n 1=true->okN (txV s l n)=true
theorem WQ {s:ByteArray} (h:(eU s).2.2=0):JY s (eU s).1:=fun n hn=>by
 obtain⟨hz,hb,r,_,hr⟩:=Yn h
 have hlt:=dn hn
 have hk:((eU s).1.getD n lX).k=1:=by
  unfold isV at hn
  simp only[adg,adn] at hn
  exact hn.2
 have hm:(eU s).1.getD n lX∈(eU s).1:=dB hlt
 have hp:=WO (Nat.zero_le _) hr _ hm
 rw[hk] at hp
 unfold txV
 rw[if_pos hlt]
 obtain⟨_,_,_,h4⟩:=hp
 rcases h4 with⟨_,_,h5⟩ | ⟨_,_,h5,_⟩
 ·exact absurd h5 (by decide)
 ·exact Yr h5
theorem dL {x:Ins} {n:Int} {d r a:Bool} (hs:jm x.kind=some (n,d,r,a)) (h3:x.kind≠3) (hi:RIn x n d r a) (ho:x.kind=2->(opName x.op).data.toList≠[]):bS x=true:=by
 have c1:(decide (x.op≠0) != decide (x.kind=2))=false:=by
  by_cases e:x.op=0
  ·have:¬x.kind=2:=fun h=>(hi.op.2 h) e
   simp [e,this]
  ·have:=hi.op.1 e
   simp [e,this]
 have c2:(decide (x.op≠0)&&decide ((opName x.op).data.toList=[]))=false:=by
  by_cases e:x.op=0
  ·simp [e]
  ·have:=ho (hi.op.1 e)
   simp only[this,decide_false,Bool.and_false]
 have c3:(decide (x.num≠0)&&decide (x.kind≠1))=false:=by
  by_cases e:x.num=0
  ·simp [e]
  ·have:=hi.num e
   simp [this]
 unfold bS
 rw[c1,c2,c3,hi.args,hi.frm,if_neg (by simp [dZ]),if_neg h3,hs]
 dsimp only
 rw[hi.dst,hi.ref,hi.alt]
 have l1:=hi.yw.1
 have l2:=hi.yw.2
 have e1:(decide (0≤n)&&decide ((x.args.length:Int)≠n))=false:=by
  by_cases e:0≤n
  ·simp [l1 e]
  ·simp [e]
 rw[e1,decide_eq_false (show ¬6<x.args.length by omega)]
 rfl
theorem JZ {x:Ins} (h3:x.kind=3) (hp:acW x):bS x=true:=by
 unfold bS
 rw[hp.op,hp.num,h3,hp.args,hp.frm,if_neg (by decide),if_pos rfl,hp.dst,hp.ref,hp.alt]
 have h1:=hp.len
 rw[decide_eq_true h1.1,decide_eq_true h1.2.1,decide_eq_true h1.2.2]
 rfl
theorem aQ {α β:Type} {r:Except (Int×Int) (Nat×α)} {k:Nat->α->Except (Int×Int) (Nat×β)} {z:Nat×β} (h:bnd r k=.ok z):∃n a,r=.ok (n,a)∧k n a=.ok z:=by
 rcases r with e | ⟨n,a⟩
 ·cases h
 ·exact⟨n,a,rfl,h⟩
theorem M8 {α:Type} {s:ByteArray} {l:List Tok} {b:UInt8} {r:Except (Int×Int) (Nat×α)} {n:Nat} {o:α} (h:j6 s l b r=.ok (n,o)):∃m,r=.ok (m,o):=by
 rcases r with e | ⟨m,q⟩
 ·cases h
 ·unfold j6 at h
  dsimp only at h
  split at h
  ·injection h with h;obtain⟨_,rfl⟩:=Prod.mk.inj h;exact⟨m,rfl⟩
  ·cases h
theorem ac5 (o:Int) (h:0≤o):decide ((opName o).data.toList=[])=(decide (o<1)||decide (12<o)):=by
 unfold opName
 by_cases h13:13≤o
 ·rw[if_pos h13,decide_eq_true (show 12<o by omega)]
  simp
 ·rw[if_neg h13]
  have:∀n,n<13->decide ((opAt n).data.toList=[])=(decide ((n:Int)<1)||decide (12<(n:Int))):=by decide +kernel
  have h2:=this o.toNat (by omega)
  rwa [show ((o.toNat:Nat):Int)=o by omega] at h2
theorem WR (b:List UInt8):∀(k i:Nat),i+k≤13->opF b k i<13
 | 0,i,_=>by rw[opF];omega
 | k+1,i,h=>by
  rw[opF]
  split
  ·omega
  ·exact WR b k (i+1) (by omega)
theorem aaT (w:ByteArray):opV w<13:=WR _ 13 0 (by omega)
section
variable {s:ByteArray} {l:List Tok} (hN:JY s l)
include hN
theorem l8 {n n':Nat} {w:ByteArray} (h:nmV s l n=.ok (n',w)):okN w=true:=by
 unfold nmV at h
 split at h
 ·rename_i hi
  injection h with h;obtain⟨_,rfl⟩:=Prod.mk.inj h
  exact hN n hi
 ·cases h
theorem M9:∀(f n k:Nat) (o:List ByteArray) {n':Nat} {q:List ByteArray},dZ o=true->o.length=k->k≤6->kS s l f n k o=.ok (n',q)->dZ q=true∧q.length≤6
 | 0,_,_,_,_,_,_,_,_,h=>by cases h
 | f+1,n,k,o,n',q,ho,hk,h6,h=>by
  rw[kS] at h
  split at h
  ·rename_i hi
   split at h
   ·cases h
   ·have ho2:dZ (o++[txV s l n])=true:=by
     unfold dZ at ho ⊢
     rw[List.all_append,ho]
     simp [hN n hi]
    split at h
    ·exact M9 f (n+2) (k+1) _ ho2 (by simp;omega) (by omega) h
    ·injection h with h;obtain⟨_,rfl⟩:=Prod.mk.inj h
     exact⟨ho2,by simp;omega⟩
  ·cases h
theorem QI {n n':Nat} {q:List ByteArray} (h:iL s l n=.ok (n',q)):dZ q=true∧q.length≤6:=by
 unfold iL at h
 split at h
 ·split at h
  ·injection h with h;obtain⟨_,rfl⟩:=Prod.mk.inj h
   exact⟨rfl,by simp⟩
  ·obtain⟨m,hm⟩:=M8 h
   exact M9 hN _ _ 0 [] rfl rfl (by omega) hm
 ·cases h
structure PhG (a:Int) (d:ByteArray) (x:Ins):Prop where
 eq:x=⟨3,0,d, .empty, .empty,x.args,x.frm,0,a⟩
 args:dZ x.args=true
 frm:dZ x.frm=true
 len:x.frm.length=x.args.length
theorem Na {a:Int} {d:ByteArray}:∀(f n k:Nat) (x:Ins) {n':Nat} {y:Ins},PhG a d x->x.frm.length=k->k≤64->kU s l f n k x=.ok (n',y)->PhG a d y∧1≤y.frm.length∧y.frm.length≤64
 | 0,_,_,_,_,_,_,_,_,h=>by cases h
 | f+1,n,k,x,n',y,hx,hk,h64,h=>by
  rw[kU] at h
  split at h
  ·cases h
  ·rename_i hno
   obtain⟨n1,x1,hp,h⟩:=aQ h
   unfold qQ at hp
   obtain⟨m1,w1,p1,hp⟩:=aQ hp
   obtain⟨m2,w2,p2,hp⟩:=aQ hp
   obtain⟨m3,w3,p3,hp⟩:=aQ hp
   injection hp with hp
   obtain⟨rfl,rfl⟩:=Prod.mk.inj hp
   have hlt:k<64:=by
    have hi:isV l n 1=true:=by
     unfold nmV at p1
     split at p1
     ·assumption
     ·cases p1
    have:¬64≤k:=fun h=>hno ⟨hi,h⟩
    omega
   have hx1:PhG a d {x with frm:=x.frm++[w1],args:=x.args++[w3]}:=by
    refine⟨?_,?_,?_,?_⟩
    ·rw[hx.eq]
    ·have:=hx.args
     unfold dZ at this ⊢
     rw[List.all_append,this]
     simp [l8 hN p3]
    ·have:=hx.frm
     unfold dZ at this ⊢
     rw[List.all_append,this]
     simp [l8 hN p1]
    ·have:=hx.len;simp;omega
   split at h
   ·exact Na f _ (k+1) _ hx1 (by simp;omega) (by omega) h
   ·injection h with h;obtain⟨_,rfl⟩:=Prod.mk.inj h
    exact⟨hx1,by simp,by simp;omega⟩
theorem Yt {n n':Nat} {a:Int} {d:ByteArray} {x:Ins} (hd:okN d=true) (h:dM s l n {aN a with dst:=d}=.ok (n',x)):bS x=true∧ak x.num:=by
 have z0:ak 0:=by unfold ak;omega
 have hdt:cZ d true=true:=by unfold cZ;rw[hd];rfl
 have hrt:∀{w:ByteArray},okN w=true->cZ w true=true:=fun h=>by unfold cZ;rw[h];rfl
 have one:∀{w:ByteArray},okN w=true->dZ [w]=true:=fun h=>by unfold dZ;simp [h]
 unfold dM at h
 split at h
 ·rename_i hop
  obtain⟨n1,x1,h1,h⟩:=aQ h
  obtain⟨m1,w1,p1,h1⟩:=aQ h1
  injection h1 with h1;obtain⟨rfl,rfl⟩:=Prod.mk.inj h1
  obtain⟨m2,w2,p2,h2⟩:=aQ h
  injection h2 with h2;obtain⟨rfl,rfl⟩:=Prod.mk.inj h2
  have hlt:opV (txV s l n)<13:=aaT _
  have hne:(opName ((opV (txV s l n):Nat):Int)).data.toList≠[]:=by
   intro e
   have:=ac5 ((opV (txV s l n):Nat):Int) (by omega)
   rw[decide_eq_true e] at this
   simp only[Bool.true_eq,Bool.or_eq_true,adn] at this
   omega
  refine⟨dL (n:=2) (d:=true) (r:=false) (a:=false) rfl (by show (2:Int)≠3;decide) ⟨?_,rfl,⟨fun _=>rfl,by show 2≤6;decide⟩,hdt,rfl,rfl,?_,fun h=>absurd rfl h⟩ fun _=>hne,z0⟩
  ·unfold dZ;simp [aN,l8 hN p1,l8 hN p2]
  ·constructor
   ·intro _;rfl
   ·intro _
    show ((opV (txV s l n):Nat):Int)≠0
    omega
 ·unfold Cw at h
  split at h
  ·unfold qp at h
   split at h
   ·injection h with h;obtain⟨_,rfl⟩:=Prod.mk.inj h
    exact⟨dL (n:=0) (d:=true) (r:=false) (a:=false) rfl (by show (1:Int)≠3;decide) ⟨rfl,rfl,⟨fun _=>rfl,by show 0≤6;decide⟩,hdt,rfl,rfl,⟨fun h=>absurd rfl h,fun h=>absurd h (by show ¬(1:Int)=2;decide)⟩,fun _=>rfl⟩ (fun h=>absurd h (by show ¬(1:Int)=2;decide)),Ua _⟩
   ·cases h
  split at h
  ·obtain⟨n1,x1,h1,h⟩:=aQ h
   obtain⟨m1,w1,p1,h1⟩:=aQ h1
   injection h1 with h1;obtain⟨rfl,rfl⟩:=Prod.mk.inj h1
   obtain⟨m2,w2,p2,h2⟩:=aQ h
   injection h2 with h2;obtain⟨rfl,rfl⟩:=Prod.mk.inj h2
   exact⟨dL (n:=1) (d:=true) (r:=true) (a:=false) rfl (by show (4:Int)≠3;decide) ⟨one (l8 hN p2),rfl,⟨fun _=>rfl,by show 1≤6;decide⟩,hdt,hrt (l8 hN p1),rfl,⟨fun h=>absurd rfl h,fun h=>absurd h (by show ¬(4:Int)=2;decide)⟩,fun h=>absurd rfl h⟩ (fun h=>absurd h (by show ¬(4:Int)=2;decide)),z0⟩
  split at h
  ·obtain⟨n1,x1,h1,h⟩:=aQ h
   obtain⟨m1,w1,p1,h1⟩:=aQ h1
   injection h1 with h1;obtain⟨rfl,rfl⟩:=Prod.mk.inj h1
   obtain⟨m2,w2,p2,h2⟩:=aQ h
   injection h2 with h2;obtain⟨rfl,rfl⟩:=Prod.mk.inj h2
   exact⟨dL (n:=1) (d:=true) (r:=true) (a:=false) rfl (by show (5:Int)≠3;decide) ⟨one (l8 hN p2),rfl,⟨fun _=>rfl,by show 1≤6;decide⟩,hdt,hrt (l8 hN p1),rfl,⟨fun h=>absurd rfl h,fun h=>absurd h (by show ¬(5:Int)=2;decide)⟩,fun h=>absurd rfl h⟩ (fun h=>absurd h (by show ¬(5:Int)=2;decide)),z0⟩
  split at h
  ·obtain⟨m1,w1,p1,h1⟩:=aQ h
   injection h1 with h1;obtain⟨rfl,rfl⟩:=Prod.mk.inj h1
   exact⟨dL (n:=0) (d:=true) (r:=true) (a:=false) rfl (by show (8:Int)≠3;decide) ⟨rfl,rfl,⟨fun _=>rfl,by show 0≤6;decide⟩,hdt,hrt (l8 hN p1),rfl,⟨fun h=>absurd rfl h,fun h=>absurd h (by show ¬(8:Int)=2;decide)⟩,fun h=>absurd rfl h⟩ (fun h=>absurd h (by show ¬(8:Int)=2;decide)),z0⟩
  split at h
  ·obtain⟨n1,x1,h1,h⟩:=aQ h
   obtain⟨m1,w1,p1,h1⟩:=aQ h1
   injection h1 with h1;obtain⟨rfl,rfl⟩:=Prod.mk.inj h1
   obtain⟨m2,w2,p2,h2⟩:=aQ h
   injection h2 with h2;obtain⟨rfl,rfl⟩:=Prod.mk.inj h2
   obtain⟨q1,q2⟩:=QI hN p2
   exact⟨dL (n:=-1) (d:=true) (r:=true) (a:=false) rfl (by show (7:Int)≠3;decide) ⟨q1,rfl,⟨fun h=>absurd h (by decide),q2⟩,hdt,hrt (l8 hN p1),rfl,⟨fun h=>absurd rfl h,fun h=>absurd h (by show ¬(7:Int)=2;decide)⟩,fun h=>absurd rfl h⟩ (fun h=>absurd h (by show ¬(7:Int)=2;decide)),z0⟩
  split at h
  ·obtain⟨n1,x1,h1,h⟩:=aQ h
   obtain⟨m1,w1,p1,h1⟩:=aQ h1
   injection h1 with h1;obtain⟨rfl,rfl⟩:=Prod.mk.inj h1
   obtain⟨m2,w2,p2,h2⟩:=aQ h
   injection h2 with h2;obtain⟨rfl,rfl⟩:=Prod.mk.inj h2
   exact⟨dL (n:=1) (d:=true) (r:=true) (a:=false) rfl (by show (10:Int)≠3;decide) ⟨one (l8 hN p1),rfl,⟨fun _=>rfl,by show 1≤6;decide⟩,hdt,hrt (l8 hN p2),rfl,⟨fun h=>absurd rfl h,fun h=>absurd h (by show ¬(10:Int)=2;decide)⟩,fun h=>absurd rfl h⟩ (fun h=>absurd h (by show ¬(10:Int)=2;decide)),z0⟩
  split at h
  ·obtain⟨n1,_,h1,h⟩:=aQ h
   obtain⟨m,hm⟩:=M8 h
   obtain⟨g1,g2,g3⟩:=Na hN (a:=a) (d:=d) _ _ 0 _ ⟨rfl,rfl,rfl,rfl⟩ rfl (by omega) hm
   have e:=g1.eq
   have k3:x.kind=3:=by rw[e]
   have o0:x.op=0:=by rw[e]
   have d0:x.dst=d:=by rw[e]
   have r0:x.ref=.empty:=by rw[e]
   have a0:x.alt=.empty:=by rw[e]
   have m0:x.num=0:=by rw[e]
   exact⟨JZ k3 ⟨g1.args,g1.frm,by rw[d0];exact hd,r0,a0,⟨g1.len,g2,g3⟩,o0,m0⟩,by rw[m0];exact z0⟩
  ·cases h
end
theorem jH {α:Type} {a b:Nat×α} (h:(Except.ok a:Except (Int×Int) (Nat×α))=.ok b):a=b:=by cases h;rfl
section
variable {s:ByteArray} {l:List Tok} (hN:JY s l)
include hN
theorem Yu {n n' c:Nat} {x:Ins} (h:bN s l n c=.ok (n',x)):bS x=true∧ak x.num∧c<4096:=by
 have z0:ak 0:=by unfold ak;omega
 have hrt:∀{w:ByteArray},okN w=true->cZ w true=true:=fun h=>by unfold cZ;rw[h];rfl
 have one:∀{w:ByteArray},okN w=true->dZ [w]=true:=fun h=>by unfold dZ;simp [h]
 unfold bN at h
 split at h
 ·cases h
 split at h
 ·cases h
 split at h
 ·cases h
 rename_i hc
 have hc:c<4096:=by omega
 split at h
 ·rename_i g hg
  unfold qw at hg
  split at hg
  ·obtain rfl:=adl hg
   unfold uX at h
   dsimp only at h
   obtain⟨m1,w1,p1,h1⟩:=aQ h
   obtain⟨m2,x2,p2,h2⟩:=aQ h1
   obtain⟨m3,x3,p3,h3⟩:=aQ h2
   obtain⟨m4,w4,p4,qp2⟩:=aQ p2
   obtain⟨m5,w5,p5,qp3⟩:=aQ p3
   obtain⟨rfl,rfl⟩:=Prod.mk.inj (jH qp2)
   obtain⟨rfl,rfl⟩:=Prod.mk.inj (jH qp3)
   obtain⟨rfl,rfl⟩:=Prod.mk.inj (jH h3)
   refine⟨dL (n:=2) (d:=false) (r:=true) (a:=false) rfl (by show (6:Int)≠3;decide) ⟨?_,rfl,⟨fun _=>rfl,by show 2≤6;decide⟩,rfl,hrt (l8 hN p1),rfl,⟨fun h=>absurd rfl h,fun h=>absurd h (by show ¬(6:Int)=2;decide)⟩,fun h=>absurd rfl h⟩ (fun h=>absurd h (by show ¬(6:Int)=2;decide)),z0,hc⟩
   unfold dZ;simp [aN,l8 hN p4,l8 hN p5]
  split at hg
  ·obtain rfl:=adl hg
   unfold xE at h
   dsimp only at h
   obtain⟨m1,w1,p1,h1⟩:=aQ h
   obtain⟨m2,x2,p2,h2⟩:=aQ h1
   obtain⟨m4,w4,p4,qp2⟩:=aQ p2
   obtain⟨rfl,rfl⟩:=Prod.mk.inj (jH qp2)
   obtain⟨rfl,rfl⟩:=Prod.mk.inj (jH h2)
   exact⟨dL (n:=1) (d:=false) (r:=true) (a:=false) rfl (by show (9:Int)≠3;decide) ⟨one (l8 hN p4),rfl,⟨fun _=>rfl,by show 1≤6;decide⟩,rfl,hrt (l8 hN p1),rfl,⟨fun h=>absurd rfl h,fun h=>absurd h (by show ¬(9:Int)=2;decide)⟩,fun h=>absurd rfl h⟩ (fun h=>absurd h (by show ¬(9:Int)=2;decide)),z0,hc⟩
  split at hg
  ·obtain rfl:=adl hg
   unfold zA at h
   dsimp only at h
   obtain⟨m1,w1,p1,h1⟩:=aQ h
   obtain⟨rfl,rfl⟩:=Prod.mk.inj (jH h1)
   exact⟨dL (n:=0) (d:=false) (r:=true) (a:=false) rfl (by show (11:Int)≠3;decide) ⟨rfl,rfl,⟨fun _=>rfl,by show 0≤6;decide⟩,rfl,hrt (l8 hN p1),rfl,⟨fun h=>absurd rfl h,fun h=>absurd h (by show ¬(11:Int)=2;decide)⟩,fun h=>absurd rfl h⟩ (fun h=>absurd h (by show ¬(11:Int)=2;decide)),z0,hc⟩
  split at hg
  ·obtain rfl:=adl hg
   unfold uY at h
   dsimp only at h
   obtain⟨m1,x1,p1,h1⟩:=aQ h
   obtain⟨m4,w4,p4,qp1⟩:=aQ p1
   obtain⟨rfl,rfl⟩:=Prod.mk.inj (jH qp1)
   obtain⟨m2,w2,p2,h2⟩:=aQ h1
   obtain⟨m3,w3,p3,h3⟩:=aQ h2
   obtain⟨rfl,rfl⟩:=Prod.mk.inj (jH h3)
   exact⟨dL (n:=1) (d:=false) (r:=true) (a:=true) rfl (by show (12:Int)≠3;decide) ⟨one (l8 hN p4),rfl,⟨fun _=>rfl,by show 1≤6;decide⟩,rfl,hrt (l8 hN p2),hrt (l8 hN p3),⟨fun h=>absurd rfl h,fun h=>absurd h (by show ¬(12:Int)=2;decide)⟩,fun h=>absurd rfl h⟩ (fun h=>absurd h (by show ¬(12:Int)=2;decide)),z0,hc⟩
  split at hg
  ·obtain rfl:=adl hg
   obtain⟨m1,x1,p1,h1⟩:=aQ h
   obtain⟨m4,w4,p4,qp1⟩:=aQ p1
   obtain⟨rfl,rfl⟩:=Prod.mk.inj (jH qp1)
   obtain⟨rfl,rfl⟩:=Prod.mk.inj (jH h1)
   exact⟨dL (n:=1) (d:=false) (r:=false) (a:=false) rfl (by show (13:Int)≠3;decide) ⟨one (l8 hN p4),rfl,⟨fun _=>rfl,by show 1≤6;decide⟩,rfl,rfl,rfl,⟨fun h=>absurd rfl h,fun h=>absurd h (by show ¬(13:Int)=2;decide)⟩,fun h=>absurd rfl h⟩ (fun h=>absurd h (by show ¬(13:Int)=2;decide)),z0,hc⟩
  ·cases hg
 ·obtain⟨m1,w1,p1,h1⟩:=aQ h
  obtain⟨m2,w2,p2,h2⟩:=aQ h1
  obtain⟨g1,g2⟩:=Yt hN (l8 hN p1) h2
  exact⟨g1,g2,hc⟩
def aaU (x:Ins):Prop:=bS x=true∧ak x.num
theorem WS:∀(f n c:Nat) (xs:List Ins) {n' c':Nat} {ys:List Ins},c≤4096->(∀x,x∈xs->aaU x)->codeF s l f n c xs=.ok (n',(c',ys))->(∀x,x∈ys->aaU x)∧c'≤4096∧c'+xs.length=c+ys.length
 | 0,_,_,_,_,_,_,_,_,h=>by cases h
 | f+1,n,c,xs,n',c',ys,hc,hx,h=>by
  rw[codeF] at h
  split at h
  ·obtain⟨_,h⟩:=Prod.mk.inj (jH h)
   obtain⟨rfl,rfl⟩:=Prod.mk.inj h
   exact⟨hx,hc,rfl⟩
  ·obtain⟨m,x,p,h⟩:=aQ h
   obtain⟨q1,q2,q3⟩:=Yu hN p
   obtain⟨k1,k2,k3⟩:=WS f m (c+1) (xs++[x]) (by omega) (fun y hy=>by
    rcases List.mem_append.1 hy with hy | hy
    ·exact hx y hy
    ·rw[List.mem_singleton.1 hy];exact⟨q1,q2⟩) h
   refine⟨k1,k2,?_⟩
   simp only[List.length_append,List.length_cons,List.length_nil] at k3
   omega
structure Yv (b:Blk):Prop where
 name:okN b.name=true
 code:∀x,x∈b.code->aaU x
theorem QJ {n c n' c':Nat} {b:Blk} (hc:c≤4096) (h:gD s l n c=.ok (n',(c',b))):Yv b∧c'≤4096∧c'=c+b.code.length:=by
 unfold gD at h
 obtain⟨m1,w1,p1,h⟩:=aQ h
 obtain⟨m2,w2,p2,h⟩:=aQ h
 obtain⟨m3,⟨c3,ys⟩,p3,h⟩:=aQ h
 obtain⟨_,h⟩:=Prod.mk.inj (jH h)
 obtain⟨rfl,rfl⟩:=Prod.mk.inj h
 obtain⟨k1,k2,k3⟩:=WS hN _ _ _ [] hc (fun x hx=>by cases hx) p3
 simp only[List.length_nil] at k3
 exact⟨⟨l8 hN p1,k1⟩,k2,by show c3=_;dsimp only;omega⟩
theorem Nb:∀(f n c:Nat) (bs:List Blk) {n' c':Nat} {ys:List Blk},c≤4096->bs.length≤64->(∀b,b∈bs->Yv b)->gJ s l f n c bs=.ok (n',(c',ys))->(∀b,b∈ys->Yv b)∧c'≤4096∧c'+cN bs=c+cN ys∧ys.length≤64∧bs.length≤ys.length
 | 0,_,_,_,_,_,_,_,_,_,h=>by cases h
 | f+1,n,c,bs,n',c',ys,hc,h64,hb,h=>by
  rw[gJ] at h
  split at h
  ·split at h
   ·cases h
   ·rename_i hlt
    obtain⟨m,⟨c1,b⟩,p,h⟩:=aQ h
    obtain⟨q1,q2,q3⟩:=QJ hN hc p
    obtain⟨k1,k2,k3,k4,k5⟩:=Nb f m c1 (bs++[b]) q2 (by simp;omega) (fun y hy=>by
     rcases List.mem_append.1 hy with hy | hy
     ·exact hb y hy
     ·rw[List.mem_singleton.1 hy];exact q1) h
    have e:cN (bs++[b])=cN bs+b.code.length:=by unfold cN;rw[List.map_append,List.sum_append];simp
    simp only[List.length_append,List.length_cons,List.length_nil] at k5
    exact⟨k1,k2,by omega,k4,by omega⟩
  ·obtain⟨_,h⟩:=Prod.mk.inj (jH h)
   obtain⟨rfl,rfl⟩:=Prod.mk.inj h
   exact⟨hb,hc,rfl,h64,Nat.le_refl _⟩
structure ac6 (f:Fun):Prop where
 name:okN f.name=true
 params:dZ f.params=true
 aax:f.params.length≤6
 Yb:1≤f.blocks.length∧f.blocks.length≤64
 blocks:∀b,b∈f.blocks->Yv b
theorem aaV {n c n' c':Nat} {f:Fun} (hc:c≤4096) (h:lF s l n c=.ok (n',(c',f))):ac6 f∧c'≤4096∧c'=c+fN f:=by
 unfold lF at h
 obtain⟨m1,w1,p1,h⟩:=aQ h
 obtain⟨m2,w2,p2,h⟩:=aQ h
 obtain⟨m3,w3,p3,h⟩:=aQ h
 obtain⟨m4,⟨c4,b4⟩,p4,h⟩:=aQ h
 obtain⟨m5,⟨c5,b5⟩,p5,h⟩:=aQ h
 obtain⟨m6,w6,p6,h⟩:=aQ h
 obtain⟨_,h⟩:=Prod.mk.inj (jH h)
 obtain⟨rfl,rfl⟩:=Prod.mk.inj h
 obtain⟨q1,q2⟩:=QI hN p2
 obtain⟨r1,r2,r3⟩:=QJ hN hc p4
 obtain⟨k1,k2,k3,k4,k5⟩:=Nb hN _ _ _ [b4] r2 (by simp) (fun y hy=>by rw[List.mem_singleton.1 hy];exact r1) p5
 have e:cN [b4]=b4.code.length:=by simp [cN]
 have e2:fN ⟨w1,w2,b5,atV s l n⟩=cN b5:=rfl
 simp only[List.length_cons,List.length_nil] at k5
 exact⟨⟨l8 hN p1,q1,q2,⟨by show 1≤b5.length;omega,k4⟩,k1⟩,k2,by show c5=_;rw[e2];omega⟩
theorem ac7 {n n':Nat} {a:Arr} (h:wT s l n=.ok (n',a)):kK a=true:=by
 unfold wT at h
 obtain⟨m1,w1,p1,h⟩:=aQ h
 split at h
 ·split at h
  ·cases h
  ·rename_i hr
   obtain⟨m2,w2,p2,h⟩:=aQ h
   obtain⟨_,rfl⟩:=Prod.mk.inj (jH h)
   unfold kK
   rw[show okN w1=true from l8 hN p1,show okN w2=true from l8 hN p2]
   dsimp only
   rw[decide_eq_false (show ¬(eT (txV s l m1)).1<1 by omega),decide_eq_false (show ¬256<(eT (txV s l m1)).1 by omega)]
   rfl
 ·cases h
structure aaW (p:Prg):Prop where
 yw:p.arrays.length≤16
 zC:p.funcs.length≤64
 arrays:∀a,a∈p.arrays->kK a=true
 funcs:∀f,f∈p.funcs->ac6 f
 few:iF p.funcs≤4096
theorem Pp:∀(f n c:Nat) (p:Prg) {n':Nat} {q:Prg},aaW p->c=iF p.funcs->oz s l f n c p=.ok (n',q)->aaW q
 | 0,_,_,_,_,_,_,_,h=>by cases h
 | f+1,n,c,p,n',q,hp,hc,h=>by
  have hfew:=hp.few
  rw[oz] at h
  split at h
  ·split at h
   ·split at h
    ·cases h
    ·rename_i h16
     obtain⟨m,a,k,h⟩:=aQ h
     have ha:=ac7 hN k
     exact Pp f m c ⟨p.arrays++[a],p.funcs⟩ ⟨by simp;omega,hp.zC,fun y hy=>by
      rcases List.mem_append.1 hy with hy | hy
      ·exact hp.arrays y hy
      ·rw[List.mem_singleton.1 hy];exact ha,hp.funcs,hp.few⟩ hc h
   ·split at h
    ·split at h
     ·cases h
     ·rename_i h64
      obtain⟨m,⟨c1,g⟩,k,h⟩:=aQ h
      obtain⟨q1,q2,q3⟩:=aaV hN (by omega) k
      have e:iF (p.funcs++[g])=iF p.funcs+fN g:=by
       show ((p.funcs++[g]).map fN).sum=(p.funcs.map fN).sum+fN g
       rw[List.map_append,List.sum_append];simp
      exact Pp f m c1 ⟨p.arrays,p.funcs++[g]⟩ ⟨hp.yw,by simp;omega,hp.arrays,fun y hy=>by
       rcases List.mem_append.1 hy with hy | hy
       ·exact hp.funcs y hy
       ·rw[List.mem_singleton.1 hy];exact q1,by show iF (p.funcs++[g])≤4096;omega⟩ (by show c1=iF (p.funcs++[g]);omega) h
    ·cases h
  ·obtain⟨_,rfl⟩:=Prod.mk.inj (jH h)
   exact hp
end
theorem Iy {p:Prg} (h:aaW p):rightG p=true∧∀f,f∈p.funcs->∀b,b∈f.blocks->∀x,x∈b.code->ak x.num:=by
 refine⟨?_,fun f hf b hb x hx=>(((h.funcs f hf).blocks b hb).code x hx).2⟩
 have e1:p.arrays.all kK=true:=List.all_eq_true.2 h.arrays
 have e2:p.funcs.all kL=true:=List.all_eq_true.2 fun f hf=>by
  have g:=h.funcs f hf
  have e3:f.blocks.all oC=true:=List.all_eq_true.2 fun b hb=>by
   have k:=g.blocks b hb
   unfold oC
   rw[k.name,List.all_eq_true.2 fun x hx=>(k.code x hx).1];rfl
  unfold kL
  have l1:=g.aax
  have l2:=g.Yb
  rw[e3,g.name,g.params,decide_eq_false (show ¬6<f.params.length by omega),decide_eq_false (show ¬f.blocks.length<1 by omega),decide_eq_false (show ¬64<f.blocks.length by omega)]
  rfl
 unfold rightG
 have l1:=h.yw
 have l2:=h.zC
 rw[e1,e2,decide_eq_true h.few,decide_eq_false (show ¬16<p.arrays.length by omega),decide_eq_false (show ¬64<p.funcs.length by omega)]
 rfl
theorem tK {s:ByteArray} (h:(bX s).2.2=0):rightG (bX s).1=true∧∀f,f∈(bX s).1.funcs->∀b,b∈f.blocks->∀x,x∈b.code->ak x.num:=by
 unfold bX at h ⊢
 split at h
 ·rename_i h0
  rw[if_pos h0]
  rcases hV:oz s (eU s).1 ((eU s).1.length+1) 0 0 ⟨[],[]⟩ with⟨a,e⟩ | ⟨n',q⟩
  ·rw[hV] at h
   have h:e=0:=h
   exact Iy (p:=⟨[],[]⟩) ⟨Nat.zero_le _,Nat.zero_le _,fun a ha=>(by simp at ha),fun f hf=>(by simp at hf),Nat.zero_le _⟩
  ·exact Iy (Pp (WQ h0) _ _ _ ⟨[],[]⟩ ⟨Nat.zero_le _,Nat.zero_le _,fun a ha=>(by simp at ha),fun f hf=>(by simp at hf),Nat.zero_le _⟩ rfl hV)
 ·rename_i h0
  exact absurd h h0
theorem ev2 {α:Type} {f g:Nat->α} (h0:f 0=g 0) (h1:f 1=g 1):∀i,i<2->f i=g i
 | 0,_=>h0
 | 1,_=>h1
 | n+2,h=>by omega
theorem ev3 {α:Type} {f g:Nat->α} (h0:f 0=g 0) (h1:f 1=g 1) (h2:f 2=g 2):∀i,i<3->f i=g i
 | 0,_=>h0
 | 1,_=>h1
 | 2,_=>h2
 | n+3,h=>by omega
end Go.Proofs.YtojhdmfkfkfcbaaGreatDoor
namespace Go.Proofs.YtojhdmfkfkfcbaaGreatDoor
open Go.Sx
set_option linter.unusedVariables false
set_option linter.unusedSimpArgs false
def aaX (s:ByteArray):Prop:=s.size≤140737488355328
structure Ze (p:Pol):Prop where
 sz:PolSz p
 lev:∀s∈p.lev,aaX s
 ins:∀c∈p.ins,aaX c.1∧ak c.2
 outs:∀c∈p.outs,aaX c.1∧ak c.2
 depth:ak p.depth
theorem Ga {H:Type} {enc:TypeId×Value->H} {a:Assume} {C:Checked} {os:Os} {f:FuncId} {fn:Func} {s:ChangeSpec} {conds:List PathCond} {apart fresh handsOn again:Bool} {X:World->Array Value->Prop}
  (hX:∀(w w':World) (args:Array Value),w.heap=w'.heap->X w args->X w' args)
  (own:ownKnob C.prog.godebug=none) (started:os.Started) (noInit:C.prog.inits.idxOf? f=none) (hfn:C.prog.funcs[f]?=some fn)
  (witness:∃(w:World) (tape:Tape) (i:Input),w.os=os∧(w.forCall tape i).Shaped C.prog∧i.vars=[]∧Input.okWide C.prog (w.forCall tape i) .any w.heap.size f i∧
   ((s.pre enc C.prog fn conds apart (w.forCall tape i).memory i.args∧X (w.forCall tape i).memory i.args)∧sizedMet enc C.prog fn (OpenSpec.ofChange s) apart (w.forCall tape i).memory i.args)∧a.holds C.prog (lone (Frame.enter C.prog f i.args .normal) [] (w.forCall tape i)))
  (walk:∀(W:World) (base:Nat) (args:Array Value) (ds gs:List (DataW H)) (before:List MemPlace),W.ShapedOpen C.prog->
   (∀(j:Nat) t v,fn.params[j]?=some t->args[j]?=some v->Value.okWide C.prog W .any base t v)->
   DataW.Whole enc C.prog fn.params.toList s.vars apart W args.toList ds gs before->
   conds.all (PathCond.test C.prog ⟨fn.params.toList,ds,s.plain.varTypes C.prog,gs⟩)=true->
   (DataW.weightsEach C.prog (fn.params.toList++s.plain.varTypes C.prog) (ds++gs)).all (·≤reachBytes)=true->X W args->
   a.holds C.prog (lone (Frame.enter C.prog f args .normal) [] W)->
   Calls C.prog f args W fun e W'=>∃v,e=.returned v∧s.post enc C.prog fn apart fresh handsOn again W args v W') :
  ReturnsInHanded a C os f .any (fun w args=>(s.pre enc C.prog fn conds apart w args∧X w args)∧sizedMet enc C.prog fn (OpenSpec.ofChange s) apart w args) (s.post enc C.prog fn apart fresh handsOn again):=
 returnsInHanded_of_calls own started noInit witness fun w tape i _ hshape _ hin ⟨⟨⟨ds,gs,before,hwhole,hcond⟩,hx⟩,hz⟩ hh=>by
  obtain⟨_,_,_,fn',e,_,_,_,_,hv⟩:=hin
  cases hfn.symm.trans e
  refine (walk _ w.heap.size i.args ds gs before hshape hv (DataW.Whole.of_heap (w':=w.forCall tape i) (by rfl) hwhole) hcond (hz.weights hwhole) (hX _ _ _ (by rfl) hx) hh).mono ?_
  rintro e W' ⟨v,rfl,hp⟩
  exact ChangeSpec.post_blind hp
end Go.Proofs.YtojhdmfkfkfcbaaGreatDoor
namespace Go.Proofs.YtojhdmfkfkfcbaaGreatDoor
open Go.Sx
set_option linter.unusedVariables false
set_option linter.unusedSimpArgs false
set_option maxRecDepth 100000
theorem Ze.z {p:Pol} (h:Ze p):Td p:=⟨h.sz,fun s hs=>Nat.le_trans (h.lev s hs) (by decide),fun c hc=>Nat.le_trans (h.ins c hc).1 (by decide),fun c hc=>Nat.le_trans (h.outs c hc).1 (by decide)⟩
theorem MU.z {p:Pol} (h:MU p):Td p:=by
 have ho:eY p.up=true:=by have:=h.up;unfold eZ at this;rw[adg] at this;exact this.1
 have hl:=(qV ho).2
 have h1:=h.len
 have h2:=h.il
 have h3:=h.ol
 exact⟨⟨by omega,by omega,by omega,by omega⟩,fun s hs=>by have:=(wJ (h.names s hs)).2.1;omega,fun c hc=>by have:=(wJ (h.iok c hc).1).2.1;omega,fun c hc=>by have:=(wJ (h.ook c hc).1).2.1;omega⟩
def inT (m:Int):Int->Prop:=fun a=>0≤a∧a≤m
structure AtQ (m:Int->Prop) (q:Prg):Prop where
 arr:∀a∈q.arrays,m a.at_
 fn:∀f∈q.funcs,m f.at_
 blk:∀f∈q.funcs,∀b∈f.blocks,m b.at_
 ins:∀f∈q.funcs,∀b∈f.blocks,∀x∈b.code,m x.at_
theorem J2 {s:ByteArray} {l:List Tok} (H:oW s l) (k:Nat):0≤atV s l k∧atV s l k≤(s.size:Int):=by
 have:=lN (α:=Unit) (p:=fun _=>True) H k 0
 exact this
theorem WT {s:ByteArray} {l:List Tok} (H:oW s l):∀{xs:List Ins} {lo hi:Nat},Chn s l lo xs hi->∀x∈xs,0≤x.at_∧x.at_≤(s.size:Int)
 | [],_,_,_,x,hx=>by cases hx
 | y::ys,lo,hi,⟨k,_,_,hp,hc⟩,x,hx=>by
  rcases List.mem_cons.1 hx with rfl | hx
  ·rw[hp.1];exact J2 H k
  ·exact WT H hc x hx
theorem Pq {s:ByteArray} {l:List Tok} (H:oW s l):∀{bs:List Blk} {lo hi:Nat},ChB s l lo bs hi->∀b∈bs,(0≤b.at_∧b.at_≤(s.size:Int))∧∀x∈b.code,0≤x.at_∧x.at_≤(s.size:Int)
 | [],_,_,_,x,hx=>by cases hx
 | y::ys,lo,hi,⟨k,m,_,_,hp,hc,hr⟩,x,hx=>by
  rcases List.mem_cons.1 hx with rfl | hx
  ·exact⟨by rw[hp];exact J2 H k,WT H hc⟩
  ·exact Pq H hr x hx
theorem BA {s:ByteArray} {l:List Tok} (H:oW s l):∀{f n c:Nat} {p:Prg} {n':Nat} {q:Prg},(∀a∈p.arrays,0≤a.at_∧a.at_≤(s.size:Int))->oz s l f n c p=.ok (n',q)->∀a∈q.arrays,0≤a.at_∧a.at_≤(s.size:Int)
 | 0,n,c,p,n',q,hp,h=>by cases h
 | f+1,n,c,p,n',q,hp,h=>by
  rw[oz] at h
  split at h
  ·split at h
   ·split at h
    ·cases h
    ·obtain⟨n1,x,h1,h2⟩:=aQ h
     refine BA H (p:=⟨p.arrays++[x],p.funcs⟩) (fun a ha=>?_) h2
     rcases List.mem_append.1 ha with ha | ha
     ·exact hp a ha
     ·obtain rfl:=List.mem_singleton.1 ha
      unfold wT at h1
      obtain⟨n2,nm,g1,g2⟩:=aQ h1
      split at g2
      ·split at g2
       ·cases g2
       ·obtain⟨n3,lv,g3,g4⟩:=aQ g2
        cases g4
        exact J2 H n
      ·cases g2
   ·split at h
    ·split at h
     ·cases h
     ·obtain⟨n1,x,h1,h2⟩:=aQ h
      exact BA H (p:=⟨p.arrays,p.funcs++[x.2]⟩) hp h2
    ·cases h
  ·cases h;exact hp
theorem Nc {s:ByteArray} (h:(bX s).2.2=0):AtQ (inT s.size) (bX s).1:=by
 have hc:=((M7 s).2 h)
 have h0:=hc.1
 have H:=E5 s (A8 h0)
 have ha:∀a∈(bX s).1.arrays,0≤a.at_∧a.at_≤(s.size:Int):=by
  unfold bX at h ⊢
  rw[if_pos h0] at h ⊢
  rcases hV:oz s (eU s).1 ((eU s).1.length+1) 0 0 ⟨[],[]⟩ with⟨a,e⟩ | ⟨n',q⟩
  ·intro a ha;cases ha
  ·exact BA H (p:=⟨[],[]⟩) (fun a ha=>by cases ha) hV
 refine⟨ha,fun f hf=>?_,fun f hf b hb=>?_,fun f hf b hb=>?_⟩
 ·obtain⟨k,hi,_,_,e,_⟩:=hc.2 f hf
  rw[e];exact J2 H k
 ·obtain⟨k,hi,_,_,e,hB⟩:=hc.2 f hf
  exact (Pq H hB b hb).1
 ·obtain⟨k,hi,_,_,e,hB⟩:=hc.2 f hf
  exact (Pq H hB b hb).2
def Ers {α:Type} (m:Int->Prop) (r:Flt α):Prop:=∀e,r=.error e->m e.1∧e.2≠0
theorem iO {α β:Type} {m:Int->Prop} {r:Flt α} {k:α->Flt β} (h1:Ers m r) (h2:∀a,Ers m (k a)):Ers m (bd r k):=by
 rcases r with e | a
 ·intro e' he
  cases he
  exact h1 e rfl
 ·exact h2 a
theorem kC {α:Type} {m:Int->Prop} (a:α):Ers m (.ok a):=fun e h=>by cases h
theorem tL {α:Type} {m:Int->Prop} {a k:Int} (h:m a) (hk:k≠0:=by decide):Ers (α:=α) m (.error (a,k)):=fun e he=>by cases he;exact⟨h,hk⟩
theorem Ad {m:Int->Prop}:∀{L:List (ByteArray×Int)} {acc:List ByteArray},(∀e∈L,m e.2)->Ers m (fK acc L)
 | [],acc,_=>kC _
 | (s,a)::r,acc,h=>by
  rw[fK]
  split
  ·exact tL (h _ (.head _))
  ·exact Ad fun e he=>h e (.tail _ he)
theorem Ae {m:Int->Prop} {a:Int} {l:List ByteArray} {s:ByteArray} (h:m a):Ers m (fM l s a):=by
 unfold fM;split
 ·exact kC _
 ·exact tL h
theorem Iz {m:Int->Prop} {n a:Int} (h:m a):Ers m (eu n a):=by
 unfold eu;split
 ·exact kC _
 ·exact tL h
theorem BD {m:Int->Prop} {a:Int} {l:List ByteArray} (h:m a):∀{r:List ByteArray} {acc:List Int},Ers m (dN l a r acc)
 | [],_=>kC _
 | s::r,acc=>by rw[dN];exact iO (Ae h) fun _=>BD h
theorem WU {m:Int->Prop} {R:Res} {s:Scp} {x:Ins} (h:m x.at_):Ers m (mK R s x):=by
 unfold mK
 repeat' split
 all_goals first
  | exact iO (Ae h) fun _=>kC _
  | exact iO (Iz h) fun _=>kC _
  | exact iO (Ae h) fun _=>iO (Ae h) fun _=>kC _
  | exact kC _
theorem Yw {m:Int->Prop} {R:Res} {s:Scp} {x:Ins} (h:m x.at_):Ers m (wU R s x):=by
 unfold wU
 refine iO (WU h) fun _=>iO (BD h) fun _=>iO (BD h) fun _=>?_
 split
 ·exact tL h
 ·exact kC _
theorem Dx {α β:Type} {m:Int->Prop} {g:Nat->α->Flt β}:∀{l:List α} {i:Nat} {acc:List β},(∀j a,a∈l->Ers m (g j a))->Ers m (wY g l i acc)
 | [],_,_,_=>kC _
 | a::l,i,acc,h=>by rw[wY];exact iO (h _ _ (.head _)) fun _=>Dx fun j b hb=>h j b (.tail _ hb)
theorem QK {m:Int->Prop} {R:Res} {s:Scp} {code:List Ins} (h:∀x∈code,m x.at_):∀(f i:Nat) (acc:List Op9),i+f=code.length->Ers m (zK R s code f i acc)
 | 0,_,_,_=>kC _
 | f+1,i,acc,hi=>by
  rw[zK]
  have hx:=h _ (getD_in (aN 0) (show i<code.length by omega))
  refine iO ?_ fun _=>QK h f (i+1) _ (by omega)
  unfold tY
  split
  ·exact tL hx
  ·split
   ·exact tL hx
   ·exact Yw hx
theorem Yx {m:Int->Prop} (hm:m 0) {p:Pol} {q:Prg} (h:AtQ m q):Ers m (Dj p q):=by
 unfold Dj
 have hA:∀{l:List Arr} {acc:List ByteArray} {cs:List Cel},(∀a∈l,m a.at_)->Ers m (mM p l acc cs):=fun {l}=>by
  induction l with
  | nil=>intro acc cs _;exact kC _
  | cons a l ih=>
   intro acc cs hl
   rw[mM]
   split
   ·exact tL (hl _ (.head _))
   ·exact iO (Iz (hl _ (.head _))) fun _=>ih fun b hb=>hl b (.tail _ hb)
 refine iO (hA h.arr) fun ac=>iO (Ad fun e he=>?_) fun fn=>?_
 ·obtain⟨f,hf,rfl⟩:=List.mem_map.1 he
  exact h.fn f hf
 split
 ·refine iO ?_ fun ss=>iO ?_ fun bs=>kC _
  ·rw[zY q.funcs 0]
   refine Dx fun j f hf=>?_
   unfold Di
   refine iO (Ad fun e he=>?_) fun vs=>iO (Ad fun e he=>?_) fun bs=>iO (Ad fun e he=>?_) fun _=>kC _
   ·obtain⟨t,_,rfl⟩:=List.mem_map.1 he
    exact h.fn f hf
   ·obtain⟨b,hb,rfl⟩:=List.mem_map.1 he
    exact h.blk f hf b hb
   ·obtain⟨b,hb,he⟩:=List.mem_flatMap.1 he
    obtain⟨x,hx,he⟩:=List.mem_filterMap.1 he
    split at he
    ·cases he
    ·cases he
     exact h.ins f hf b hb x hx
  ·rw[zZ _ _ q.funcs 0]
   refine Dx fun j f hf=>?_
   unfold JG
   refine iO ?_ fun _=>kC _
   rw[Bv _ _ f.blocks 0]
   refine Dx fun k b hb=>?_
   unfold rz
   split
   ·exact QK (h.ins f hf b hb) _ _ _ (by omega)
   ·exact tL (h.blk f hf b hb)
 ·exact tL hm
theorem IB (a b:List Int) (ha:a.length*8≤140737488355328):Pure PG 59 [.d (dV a), .d (dV b)] (vb (decide (a=b))) []:=by
 refine aI.mk (cfg 26) av [] Tryz.func59 rfl (by kernel_rfl) rfl rfl rfl ?_
 intro C x
 refine x.cond rfl tR (fun h=>?_) (fun h=>?_)
 ·have h:(!decide ((a.length:Int)=(b.length:Int)))=true:=h
  have h:¬(a.length:Int)=b.length:=by simpa using h
  refine x.exit rfl tR ⟨.inr rfl,?_,tR,rfl⟩
  rw[decide_eq_false (show ¬a=b from fun e=>h (by rw[e]))];exact rfl
 have h:(!decide ((a.length:Int)=(b.length:Int)))=false:=h
 have hl:a.length=b.length:=by
  have:(a.length:Int)=b.length:=by simpa using h
  omega
 refine x.loop (α:={i:Nat // i≤a.length∧∀j,j<i->a.getD j 0=b.getD j 0}) (fun y=>⟨[(0, .d (dV a)),(1, .d (dV b)),(5,vi (y.1:Int))],[],0⟩) (fun y=>a.length-y.1) ⟨0,Nat.zero_le _,fun j hj=>by omega⟩ rfl tR ⟨⟨au rfl,au rfl,rfl,tR⟩,tR,rfl⟩ (fun y=>?_)
 obtain⟨i,hi,hs⟩:=y
 change Go C _ ⟨[(0, .d (dV a)),(1, .d (dV b)),(5,vi (i:Int))],[],0⟩ _
 refine x.cond rfl tR (fun h1=>?_) (fun h1=>?_)
 ·have h1:i<a.length:=by have:=adi h1;omega
  refine x.quiet rfl tR ay (by kernel_rfl) ?_
  refine x.dW rfl (by simp only[aj];omega) ?_
  refine x.cond rfl tR (fun h2=>?_) (fun h2=>?_)
  ·have h2:(!decide (a.getD i 0=b.getD i 0))=true:=h2
   refine x.exit rfl tR ⟨.inr rfl,?_,tR,rfl⟩
   rw[decide_eq_false (show ¬a=b from fun e=>by rw[e] at h2;simp at h2)];exact rfl
  ·have h2:(!decide (a.getD i 0=b.getD i 0))=false:=h2
   have h2:a.getD i 0=b.getD i 0:=by
    rw[Bool.not_eq_false',adn] at h2;exact h2
   refine x.back rfl (by simp only[aj,ak];omega) ⟨⟨i+1,by omega,fun j hj=>?_⟩,by show a.length-(i+1)<a.length-i;omega,⟨au rfl,au rfl,(show aG (vi ((i:Int)+1)) (vi ((i+1:Nat):Int)) by rw[ads];rfl),tR⟩,tR,rfl⟩
   by_cases e:j=i
   ·subst e;exact h2
   ·exact hs j (by omega)
 ·have h1:i=a.length:=by have:=adj h1;omega
  subst h1
  refine x.exit rfl tR ⟨.inr rfl,?_,tR,rfl⟩
  rw[decide_eq_true (MG hl fun j hj=>hs j (by omega))];exact rfl
structure QL (p:Bool) (x y:Op9):Prop where
 kind:x.kind=y.kind
 op:x.op=y.op
 dst:x.dst=y.dst
 ref:x.ref=y.ref
 alt:x.alt=y.alt
 args:x.args=y.args
 frm:x.frm=y.frm
 num:x.num=y.num
 at_:p=true->x.at_=y.at_
structure aaY (p:Bool) (l m:List Op9):Prop where
 len:l.length=m.length
 op:∀j,j<l.length->QL p (l.getD j op0) (m.getD j op0)
structure aaZ (p:Bool) (a b:Bod):Prop where
 FK:a.params=b.params
 vars:a.vars=b.vars
 len:a.blocks.length=b.blocks.length
 ops:∀k,k<a.blocks.length->aaY p (a.blocks.getD k []) (b.blocks.getD k [])
structure Af (p:Bool) (a b:List Bod):Prop where
 len:a.length=b.length
 bod:∀i,i<a.length->aaZ p (a.getD i aC) (b.getD i aC)
theorem QL.self (p:Bool) (x:Op9):QL p x x:=⟨rfl,rfl,rfl,rfl,rfl,rfl,rfl,rfl,fun _=>rfl⟩
theorem Af.self (p:Bool) (a:List Bod):Af p a a:=⟨rfl,fun i _=>⟨rfl,rfl,rfl,fun k _=>⟨rfl,fun j _=>QL.self p _⟩⟩⟩
set_option maxHeartbeats 8000000 in
theorem Gb (A:List Cel) (F G:List Bod) (M:Int) (p:Bool) (hal:A.length*8≤140737488355328) (hfl:F.length*8≤140737488355328) (hz:∀b∈F,Yg b) (hh:Af p F G):Pure PG 18 [Bn ⟨A,F,M⟩,Bn ⟨A,G,M⟩,vb p] (vb true) []:=by
 have hlen:=hh.len
 refine aI.mk (cfg 206) av [] Tryz.func18 rfl (by kernel_rfl) rfl rfl rfl ?_
 intro C x
 refine x.cond rfl tR (fun h=>?_) (fun h=>?_)
 ·have h:((!decide (M=M)||!decide ((A.length:Int)=(A.length:Int)))||!decide ((F.length:Int)=(G.length:Int)))=true:=h
  rw[hlen] at h
  simp at h
 clear h
 refine x.loop (α:={i:Nat // i≤A.length}) (fun y=>⟨[(2,vb p),(3, .ptr 0 0),(4, .ptr 1 0),(7,vi (y.1:Int))],[(0, .box [.d (bL A), .d (bI F),vi M]),(1, .box [.d (bL A), .d (bI G),vi M])],2⟩) (fun y=>A.length-y.1) ⟨0,Nat.zero_le _⟩ rfl tR ⟨⟨rfl,⟨rfl,rfl⟩,⟨rfl,rfl⟩,rfl,tR⟩,⟨⟨ah rfl,ah rfl,rfl,tR⟩,⟨ah rfl,ah rfl,rfl,tR⟩,tR⟩,rfl⟩ (fun y=>?_)
 obtain⟨i,hi⟩:=y
 change Go C _ ⟨[(2,vb p),(3, .ptr 0 0),(4, .ptr 1 0),(7,vi (i:Int))],[(0, .box [.d (bL A), .d (bI F),vi M]),(1, .box [.d (bL A), .d (bI G),vi M])],2⟩ _
 refine x.cond rfl tR (fun h1=>?_) (fun h1=>?_)
 ·have h1:i<A.length:=by have:=adi h1;omega
  refine x.quiet rfl tR ay (by kernel_rfl) ?_
  refine x.dW rfl (by simp only[aj];omega) ?_
  refine x.cond rfl tR (fun h2=>?_) (fun h2=>?_)
  ·have h2:(!(decide ((A.getD i bK).1=(A.getD i bK).1)&&(decide ((A.getD i bK).2=(A.getD i bK).2)&&true)))=true:=h2
   simp at h2
  ·exact x.back rfl (by simp only[aj,ak];omega) ⟨⟨i+1,by omega⟩,by show A.length-(i+1)<A.length-i;omega,⟨rfl,⟨rfl,rfl⟩,⟨rfl,rfl⟩,(show aG (vi ((i:Int)+1)) (vi ((i+1:Nat):Int)) by rw[ads];rfl),tR⟩,⟨⟨ah rfl,ah rfl,rfl,tR⟩,⟨ah rfl,ah rfl,rfl,tR⟩,tR⟩,rfl⟩
 clear h1
 refine x.loop (α:={i:Nat // i≤F.length}) (fun y=>⟨[(2,vb p),(3, .ptr 0 0),(4, .ptr 1 0),(8,vi (y.1:Int))],[(0, .box [.d (bL A), .d (bI F),vi M]),(1, .box [.d (bL A), .d (bI G),vi M])],2⟩) (fun y=>F.length-y.1) ⟨0,Nat.zero_le _⟩ rfl tR ⟨⟨rfl,⟨rfl,rfl⟩,⟨rfl,rfl⟩,rfl,tR⟩,⟨⟨ah rfl,ah rfl,rfl,tR⟩,⟨ah rfl,ah rfl,rfl,tR⟩,tR⟩,rfl⟩ (fun y=>?_)
 obtain⟨i,hi⟩:=y
 change Go C _ ⟨[(2,vb p),(3, .ptr 0 0),(4, .ptr 1 0),(8,vi (i:Int))],[(0, .box [.d (bL A), .d (bI F),vi M]),(1, .box [.d (bL A), .d (bI G),vi M])],2⟩ _
 refine x.cond rfl tR (fun h1=>?_) (fun h1=>?_)
 rotate_left
 ·exact x.exit rfl tR ⟨.inr rfl,rfl,tR,rfl⟩
 have h1:i<F.length:=by have:=adi h1;omega
 refine x.qm [] [0,1,2,3,4,5,6,7,8,9] (.fork 10 (.fork 11 (.fork 12 (.fork 13 .leaf .no) .no) .no) (.fork 11 (.fork 10 (.fork 12 (.fork 13 .leaf .no) .no) .no) .no))
   ⟨[(2,vb p),(3, .ptr 0 0),(4, .ptr 1 0),(8,vi (i:Int)),(9, .ptr 2 0),(10, .ptr 3 0)],[(2, .box [vi (F.getD ((i:Int).toNat) aC).params,vi (F.getD ((i:Int).toNat) aC).vars, .d (ko (F.getD ((i:Int).toNat) aC).blocks)]),(3, .box [vi (G.getD ((i:Int).toNat) aC).params,vi (G.getD ((i:Int).toNat) aC).vars, .d (ko (G.getD ((i:Int).toNat) aC).blocks)])],4⟩
   rfl tR ay (by kernel_rfl) Ret.bT rfl (by simp only[aj];omega) (fun C2 x2=>?_) ?_
 ·refine⟨x2.back rfl tR ⟨x2.back rfl tR ⟨x2.back rfl tR ⟨x2.back rfl tR (.inl ?_),tR⟩,tR⟩,tR⟩,x2.back rfl tR ⟨x2.back rfl tR ⟨x2.back rfl tR ⟨x2.back rfl tR (.inr ⟨[0,1,3,2],rfl,?_⟩),tR⟩,tR⟩,tR⟩,tR⟩
  ·exact⟨⟨rfl,⟨rfl,rfl⟩,⟨rfl,rfl⟩,rfl,⟨rfl,rfl⟩,⟨rfl,rfl⟩,tR⟩,⟨⟨rfl,rfl,ah rfl,tR⟩,⟨rfl,rfl,ah rfl,tR⟩,tR⟩,rfl⟩
  ·exact⟨⟨rfl,⟨rfl,rfl⟩,⟨rfl,rfl⟩,rfl,⟨rfl,rfl⟩,⟨rfl,rfl⟩,tR⟩,⟨⟨rfl,rfl,ah rfl,tR⟩,⟨rfl,rfl,ah rfl,tR⟩,tR⟩,rfl⟩
 rw[adv]
 have hX:=hz _ (getD_in aC h1)
 have hY:=hh.bod i h1
 generalize F.getD i aC=X at hX hY ⊢
 generalize G.getD i aC=Y at hY ⊢
 have hl2:=hY.len
 have hXl:=hX.l
 refine x.cond rfl tR (fun h2=>?_) (fun h2=>?_)
 ·have h2:((!decide (X.params=Y.params)||!decide (X.vars=Y.vars))||!decide ((X.blocks.length:Int)=(Y.blocks.length:Int)))=true:=h2
  rw[hY.FK,hY.vars,hl2] at h2
  simp at h2
 clear h2
 refine x.loop (α:={k:Nat // k≤X.blocks.length}) (fun y=>⟨[(2,vb p),(3, .ptr 0 0),(4, .ptr 1 0),(8,vi (i:Int)),(9, .ptr 2 0),(10, .ptr 3 0),(11,vi (y.1:Int))],[(0, .box [.d (bL A), .d (bI F),vi M]),(1, .box [.d (bL A), .d (bI G),vi M]),(2, .box [vi X.params,vi X.vars, .d (ko X.blocks)]),(3, .box [vi Y.params,vi Y.vars, .d (ko Y.blocks)])],4⟩) (fun y=>X.blocks.length-y.1) ⟨0,Nat.zero_le _⟩ rfl tR ⟨⟨rfl,⟨rfl,rfl⟩,⟨rfl,rfl⟩,rfl,⟨rfl,rfl⟩,⟨rfl,rfl⟩,rfl,tR⟩,⟨⟨ah rfl,ah rfl,rfl,tR⟩,⟨ah rfl,ah rfl,rfl,tR⟩,⟨rfl,rfl,ah rfl,tR⟩,⟨rfl,rfl,ah rfl,tR⟩,tR⟩,rfl⟩ (fun y=>?_)
 obtain⟨k,hk⟩:=y
 change Go C _ ⟨[(2,vb p),(3, .ptr 0 0),(4, .ptr 1 0),(8,vi (i:Int)),(9, .ptr 2 0),(10, .ptr 3 0),(11,vi (k:Int))],[(0, .box [.d (bL A), .d (bI F),vi M]),(1, .box [.d (bL A), .d (bI G),vi M]),(2, .box [vi X.params,vi X.vars, .d (ko X.blocks)]),(3, .box [vi Y.params,vi Y.vars, .d (ko Y.blocks)])],4⟩ _
 refine x.cond rfl tR (fun h2=>?_) (fun h2=>?_)
 rotate_left
 ·exact x.back rfl (by simp only[aj,ak];omega) ⟨⟨i+1,by omega⟩,by show F.length-(i+1)<F.length-i;omega,⟨rfl,⟨rfl,rfl⟩,⟨rfl,rfl⟩,(show aG (vi ((i:Int)+1)) (vi ((i+1:Nat):Int)) by rw[ads];rfl),tR⟩,⟨⟨ah rfl,ah rfl,rfl,tR⟩,⟨ah rfl,ah rfl,rfl,tR⟩,tR⟩,rfl⟩
 have h2:k<X.blocks.length:=by have:=adi h2;omega
 obtain⟨hLl,hLz⟩:=hX.x _ (getD_in [] h2)
 have hO:=hY.ops k h2
 have hl3:=hO.len
 refine x.quiet rfl tR ay (by kernel_rfl) ?_
 refine x.dW rfl (by simp only[aj,adv];omega) ?_
 refine x.cond rfl tR (fun h3=>?_) (fun h3=>?_)
 ·have h3:(!decide (((X.blocks.getD k []).length:Int)=((Y.blocks.getD k []).length:Int)))=true:=h3
  rw[hl3] at h3
  simp at h3
 clear h3
 refine x.loop (α:={m:Nat // m≤(X.blocks.getD k []).length}) (fun y=>⟨[(2,vb p),(3, .ptr 0 0),(4, .ptr 1 0),(8,vi (i:Int)),(9, .ptr 2 0),(10, .ptr 3 0),(11,vi (k:Int)),(12,vi (y.1:Int))],[(0, .box [.d (bL A), .d (bI F),vi M]),(1, .box [.d (bL A), .d (bI G),vi M]),(2, .box [vi X.params,vi X.vars, .d (ko X.blocks)]),(3, .box [vi Y.params,vi Y.vars, .d (ko Y.blocks)])],4⟩) (fun y=>(X.blocks.getD k []).length-y.1) ⟨0,Nat.zero_le _⟩ rfl tR ⟨⟨rfl,⟨rfl,rfl⟩,⟨rfl,rfl⟩,rfl,⟨rfl,rfl⟩,⟨rfl,rfl⟩,rfl,rfl,tR⟩,⟨⟨ah rfl,ah rfl,rfl,tR⟩,⟨ah rfl,ah rfl,rfl,tR⟩,⟨rfl,rfl,ah rfl,tR⟩,⟨rfl,rfl,ah rfl,tR⟩,tR⟩,rfl⟩ (fun y=>?_)
 obtain⟨m,hm⟩:=y
 change Go C _ ⟨[(2,vb p),(3, .ptr 0 0),(4, .ptr 1 0),(8,vi (i:Int)),(9, .ptr 2 0),(10, .ptr 3 0),(11,vi (k:Int)),(12,vi (m:Int))],[(0, .box [.d (bL A), .d (bI F),vi M]),(1, .box [.d (bL A), .d (bI G),vi M]),(2, .box [vi X.params,vi X.vars, .d (ko X.blocks)]),(3, .box [vi Y.params,vi Y.vars, .d (ko Y.blocks)])],4⟩ _
 refine x.cond rfl (by simp only[aj,adv];omega) (fun h3=>?_) (fun h3=>?_)
 rotate_left
 ·exact x.back rfl (by simp only[aj,ak];omega) ⟨⟨k+1,by omega⟩,by show X.blocks.length-(k+1)<X.blocks.length-k;omega,⟨rfl,⟨rfl,rfl⟩,⟨rfl,rfl⟩,rfl,⟨rfl,rfl⟩,⟨rfl,rfl⟩,(show aG (vi ((k:Int)+1)) (vi ((k+1:Nat):Int)) by rw[ads];rfl),tR⟩,⟨⟨ah rfl,ah rfl,rfl,tR⟩,⟨ah rfl,ah rfl,rfl,tR⟩,⟨rfl,rfl,ah rfl,tR⟩,⟨rfl,rfl,ah rfl,tR⟩,tR⟩,rfl⟩
 have h3:(m:Int)<((X.blocks.getD k []).length:Int):=adi h3
 have h3:m<(X.blocks.getD k []).length:=by omega
 refine x.qm [] [0,1,2,3,4,5,6,7,8,9,10,11,12,13,14,15] (.fork 16 (.fork 17 (.fork 18 (.fork 19 .leaf .no) .no) .no) (.fork 17 (.fork 16 (.fork 18 (.fork 19 .leaf .no) .no) .no) .no))
   ⟨[(2,vb p),(3, .ptr 0 0),(4, .ptr 1 0),(8,vi (i:Int)),(9, .ptr 2 0),(10, .ptr 3 0),(11,vi (k:Int)),(12,vi (m:Int)),(13, .ptr 4 0),(14, .ptr 5 0)],[(4, .box [.d (.int .u8 ((X.blocks.getD ((k:Int).toNat) []).getD ((m:Int).toNat) op0).kind), .d (.int .u8 ((X.blocks.getD ((k:Int).toNat) []).getD ((m:Int).toNat) op0).op),vi ((X.blocks.getD ((k:Int).toNat) []).getD ((m:Int).toNat) op0).dst,vi ((X.blocks.getD ((k:Int).toNat) []).getD ((m:Int).toNat) op0).ref,vi ((X.blocks.getD ((k:Int).toNat) []).getD ((m:Int).toNat) op0).alt, .d (dV ((X.blocks.getD ((k:Int).toNat) []).getD ((m:Int).toNat) op0).args), .d (dV ((X.blocks.getD ((k:Int).toNat) []).getD ((m:Int).toNat) op0).frm),vi ((X.blocks.getD ((k:Int).toNat) []).getD ((m:Int).toNat) op0).num,vi ((X.blocks.getD ((k:Int).toNat) []).getD ((m:Int).toNat) op0).at_]),(5, .box [.d (.int .u8 ((Y.blocks.getD ((k:Int).toNat) []).getD ((m:Int).toNat) op0).kind), .d (.int .u8 ((Y.blocks.getD ((k:Int).toNat) []).getD ((m:Int).toNat) op0).op),vi ((Y.blocks.getD ((k:Int).toNat) []).getD ((m:Int).toNat) op0).dst,vi ((Y.blocks.getD ((k:Int).toNat) []).getD ((m:Int).toNat) op0).ref,vi ((Y.blocks.getD ((k:Int).toNat) []).getD ((m:Int).toNat) op0).alt, .d (dV ((Y.blocks.getD ((k:Int).toNat) []).getD ((m:Int).toNat) op0).args), .d (dV ((Y.blocks.getD ((k:Int).toNat) []).getD ((m:Int).toNat) op0).frm),vi ((Y.blocks.getD ((k:Int).toNat) []).getD ((m:Int).toNat) op0).num,vi ((Y.blocks.getD ((k:Int).toNat) []).getD ((m:Int).toNat) op0).at_])],6⟩
   rfl tR ay (by kernel_rfl) Ret.bT rfl (by simp only[aj,adv];omega) (fun C2 x2=>?_) ?_
 ·refine⟨x2.back rfl tR ⟨x2.back rfl tR ⟨x2.back rfl tR ⟨x2.back rfl tR (.inl ?_),tR⟩,tR⟩,tR⟩,x2.back rfl tR ⟨x2.back rfl tR ⟨x2.back rfl tR ⟨x2.back rfl tR (.inr ⟨[0,1,2,3,5,4],rfl,?_⟩),tR⟩,tR⟩,tR⟩,tR⟩
  ·exact⟨⟨rfl,⟨rfl,rfl⟩,⟨rfl,rfl⟩,rfl,⟨rfl,rfl⟩,⟨rfl,rfl⟩,rfl,rfl,⟨rfl,rfl⟩,⟨rfl,rfl⟩,tR⟩,⟨⟨rfl,rfl,rfl,rfl,rfl,ah rfl,ah rfl,rfl,rfl,tR⟩,⟨rfl,rfl,rfl,rfl,rfl,ah rfl,ah rfl,rfl,rfl,tR⟩,tR⟩,rfl⟩
  ·exact⟨⟨rfl,⟨rfl,rfl⟩,⟨rfl,rfl⟩,rfl,⟨rfl,rfl⟩,⟨rfl,rfl⟩,rfl,rfl,⟨rfl,rfl⟩,⟨rfl,rfl⟩,tR⟩,⟨⟨rfl,rfl,rfl,rfl,rfl,ah rfl,ah rfl,rfl,rfl,tR⟩,⟨rfl,rfl,rfl,rfl,rfl,ah rfl,ah rfl,rfl,rfl,tR⟩,tR⟩,rfl⟩
 rw[adv,adv]
 have hU:=hLz _ (getD_in op0 h3)
 have hW:=hO.op m h3
 generalize (X.blocks.getD k []).getD m op0=U at hU hW ⊢
 generalize (Y.blocks.getD k []).getD m op0=W at hW ⊢
 refine x.gW rfl tR rfl (fun _=>IB U.args W.args hU.a) rfl ⟨au rfl,au rfl,tR⟩ ?_
 refine x.gW rfl tR rfl (fun _=>IB U.frm W.frm hU.f) rfl ⟨au rfl,au rfl,tR⟩ ?_
 refine x.cond rfl tR (fun h4=>?_) (fun h4=>?_)
 ·exfalso
  have h4:((((((((!decide (U.kind=W.kind)||!decide (U.op=W.op))||!decide (U.dst=W.dst))||!decide (U.ref=W.ref))||!decide (U.alt=W.alt))||!decide (U.num=W.num))||(p&&!decide (U.at_=W.at_)))||!decide (U.args=W.args))||!decide (U.frm=W.frm))=true:=h4
  have ha:=hW.at_
  rw[hW.kind,hW.op,hW.dst,hW.ref,hW.alt,hW.num,hW.args,hW.frm] at h4
  cases p with
  | false=>simp at h4
  | true=>rw[ha rfl] at h4;simp at h4
 exact x.back rfl (by simp only[aj,ak];omega) ⟨⟨m+1,by omega⟩,by show (X.blocks.getD k []).length-(m+1)<(X.blocks.getD k []).length-m;omega,⟨rfl,⟨rfl,rfl⟩,⟨rfl,rfl⟩,rfl,⟨rfl,rfl⟩,⟨rfl,rfl⟩,rfl,(show aG (vi ((m:Int)+1)) (vi ((m+1:Nat):Int)) by rw[ads];rfl),tR⟩,⟨⟨ah rfl,ah rfl,rfl,tR⟩,⟨ah rfl,ah rfl,rfl,tR⟩,⟨rfl,rfl,ah rfl,tR⟩,⟨rfl,rfl,ah rfl,tR⟩,tR⟩,rfl⟩
def Nf (c:Cod):Prop:=∀b∈c.funcs,∀l∈b.blocks,∀x∈l,ak x.num
theorem Zf {p:Pol} {c:Cod} (hc:qB p c) {b:Bod} (hb:b∈c.funcs) {l:List Op9} (hl:l∈b.blocks) {x:Op9} (hx:x∈l):aaC x:=by
 have hB:=hc.bod b hb
 have hv:=Du hc hb
 have hbl:=hB.len
 have hP:=(l6 p).1 hc.pol
 obtain⟨n,d,r,a,h⟩:=MV hB hl hx
 have hD:=Dv h
 have hal:x.args.length≤5000000:=by
  have:x.args.length≤64:=by
   rcases vM h.sh with⟨hk,_⟩ | ⟨h3,hs⟩
   ·have:=h.phi hk;omega
   ·have hr:=Aa hc hb hl hx
    rcases jr hr with⟨g,_⟩ | ⟨_,_,_,_,_,_,hi,_⟩
    ·exact absurd g h3
    ·have g:=hi.yw.2
     have e:(aY p c.main x).args.length=x.args.length:=List.length_map _
     omega
  omega
 have hfl:x.frm.length≤64:=by
  rcases vM h.sh with⟨hk,_⟩ | ⟨h3,hs⟩
  ·exact (h.phi hk).2.2
  ·rw[(h.aaE h3).1];exact Nat.zero_le _
 have hcf:=hc.fl
 have hca:=hc.al
 refine⟨by omega,by omega,fun k hk=>?_,fun k hk=>?_,?_,?_,?_⟩
 ·have:=h.args k hk;unfold ak;omega
 ·have:=h.frm k hk;unfold ak;omega
 ·cases d with
  | true=>have:=JV hB hl hx hD;unfold ak;omega
  | false=>rw[h.d0 rfl];unfold ak;omega
 ·cases r with
  | false=>rw[h.r0 rfl];unfold ak;omega
  | true=>
   have hm:=h.r1 rfl
   have hpl:p.lev.length≤1000000:=by
    have:=hP.len
    have ho:eY p.up=true:=by have:=hP.up;unfold eZ at this;rw[adg] at this;exact this.1
    have:=(qV ho).2
    omega
   have i1:=hP.il
   have i2:=hP.ol
   unfold FL at hm
   unfold ak
   repeat' split at hm
   all_goals omega
 ·cases a with
  | false=>rw[h.a0 rfl];unfold ak;omega
  | true=>have:=h.a1 rfl;unfold ak;omega
theorem WV {p:Pol} {c:Cod} (hc:qB p c) {b:Bod} (hb:b∈c.funcs) {l:List Op9} (hl:l∈b.blocks):l.length≤4096:=by
 have h1:=vI (g:=fun l:List Op9=>l.length) hl
 have h2:=vI (g:=fun b:Bod=>(b.blocks.map fun l=>l.length).sum) hb
 have:=hc.all
 omega
theorem WW {p:Pol} {c:Cod} (hc:qB p c):Qs c:=by
 refine⟨by have:=hc.al;omega,by have:=hc.fl;omega,fun b hb=>by have:=(hc.bod b hb).len;omega,fun b hb l hl=>⟨by have:=WV hc hb hl;omega,fun x hx=>Zf hc hb hl hx⟩⟩
theorem Pt {p:Pol} {c:Cod} (hc:qB p c):RsZ c:=by
 refine⟨by have:=hc.al;omega,by have:=hc.fl;omega,fun b hb=>⟨by have:=(hc.bod b hb).len;omega,fun l hl=>⟨by have:=WV hc hb hl;omega,fun x hx=>?_⟩⟩⟩
 have:=Zf hc hb hl hx
 exact⟨by have:=this.a;omega,by have:=this.f;omega⟩
theorem IC {p:Pol} {c:Cod} (hc:qB p c) (hn:Nf c):OU (jG p c):=by
 refine nO (lZ.2 (FV hc)) fun f hf b hb x hx=>?_
 obtain⟨i,hi,rfl⟩:=qc.1 hf
 obtain⟨k,hk,rfl⟩:=qc.1 hb
 obtain⟨y,hy,rfl⟩:=List.mem_map.1 hx
 exact hn _ (getD_in aC hi) _ (getD_in [] hk) y hy
theorem tN {p:Pol} {c:Cod} (hc:qB p c):gB p (jG p c)=(c,0,0):=by
 unfold gB
 rw[if_pos (by rw[hc.pol,lZ.2 (FV hc)];rfl),Qz.2 (O8 hc)];rfl
theorem yM {α:Type} {P:α->α->Bool} {d:α} (h:∀a,P a a=true) (l:List α):lM P d l l=true:=by
 unfold lM
 rw[decide_eq_true rfl,Bool.true_and,zI]
 exact fun i _ _=>h _
theorem GI (l:List Bod):rD l l=true:=by
 refine yM (fun b=>?_) l
 unfold l9
 rw[decide_eq_true rfl,decide_eq_true rfl,Bool.true_and,Bool.true_and]
 refine yM (fun l=>?_) b.blocks
 refine yM (fun x=>?_) l
 unfold tu
 simp
theorem Ng {p:Pol} {c:Cod} (hc:qB p c):vK p c=some (jG p c):=by
 have e1:((gB p (jG p c)).2.2)=0:=by rw[tN hc]
 have e2:((gB p (jG p c)).1)=c:=by rw[tN hc]
 unfold vK
 rw[if_pos (by rw[hc.pol,decide_eq_true hc.fl,decide_eq_true hc.al];rfl),oN hc]
 simp only[e1,e2]
 rw[if_pos (by rw[GI];simp)]
theorem ac8 {p:Pol} {c:Cod} (hc:qB p c) (hn:Nf c):Pure PG 8 [Jz p,Bn c] (O1 (some (jG p c))) []:=by
 have hP:=(l6 p).1 hc.pol
 have h:=FH p c hP.z ⟨by have:=hP.il;omega,by have:=hP.ol;omega⟩ (WW hc) (fun q hq=>by rw[oN hc] at hq;cases hq;exact IC hc hn) (fun q hq=>by rw[oN hc] at hq;cases hq;rw[tN hc];exact Pt hc)
 rwa [Ng hc] at h
theorem Ub {p:Pol} {c:Cod} (hc:qB p c) (hn:Nf c):Pure PG 13 [Jz p,Bn c] (vb true) []:=by
 have hP:=(l6 p).1 hc.pol
 have h:=MK p c hP.z ⟨by have:=hP.il;omega,by have:=hP.ol;omega⟩ (WW hc) (fun q hq=>by rw[oN hc] at hq;cases hq;exact IC hc hn) (fun q hq=>by rw[oN hc] at hq;cases hq;rw[tN hc];exact Pt hc)
 rwa [Ng hc] at h
theorem Pv {p:Pol} {c:Cod} (hc:qB p c) (t:Bool):Pure PG 18 [Bn c,Bn c,vb t] (vb true) []:=by
 have h:=Pt hc
 exact Gb c.arrays c.funcs c.funcs c.main t h.a h.f h.b (Af.self t _)
theorem WX {p:Pol} {q:Prg} {c:Cod} (hi:Il p q c) (hn:∀f,f∈q.funcs->∀b,b∈f.blocks->∀x,x∈b.code->ak x.num):Nf c:=by
 intro b hb l hl x hx
 obtain⟨i,hi1,rfl⟩:=List.getElem_of_mem hb
 have hi2:i<q.funcs.length:=by rw[←hi.len];exact hi1
 have hB:=hi.fn i hi2
 rw[show c.funcs.getD i aC=c.funcs[i] by rw[adf,adh hi1];rfl] at hB
 obtain⟨k,hk1,rfl⟩:=List.getElem_of_mem hl
 have hk2:k<(q.funcs.getD i bD).blocks.length:=by rw[←hB.len];exact hk1
 have hL:=hB.blk k hk2
 rw[show c.funcs[i].blocks.getD k []=c.funcs[i].blocks[k] by rw[adf,adh hk1];rfl] at hL
 obtain⟨j,hj1,rfl⟩:=List.getElem_of_mem hx
 have hj2:j<((q.funcs.getD i bD).blocks.getD k bH).code.length:=by rw[←hL.len];exact hj1
 obtain⟨o,ho⟩:=Wt (vN.1 (hL.ins j hj2)).op
 have hy:=ho.y
 rw[show c.funcs[i].blocks[k].getD j op0=c.funcs[i].blocks[k][j] by rw[adf,adh hj1];rfl] at hy
 rw[hy]
 exact hn _ (getD_in _ hi2) _ (getD_in _ hk2) _ (getD_in _ hj2)
theorem WY {m:Int} (hm:0≤m) {p:Pol} {q:Prg} (hat:AtQ (inT m) q) (hp:MU p) (hq:rightG q=true) (hn:∀f,f∈q.funcs->∀b,b∈f.blocks->∀x,x∈b.code->ak x.num) (h:(gB p q).2.2=0):qB p (gB p q).1∧Nf (gB p q).1:=by
 have hr:=(l6 p).2 hp
 unfold gB at h ⊢
 rw[if_pos (by rw[hr,hq];rfl)] at h ⊢
 rcases hV:Dj p q with⟨a,e⟩ | c
 ·exfalso
  rw[hV] at h
  exact (Yx (m:=inT m) ⟨Int.le_refl _,hm⟩ hat _ hV).2 h
 ·have hi:=Qz.1 hV
  exact⟨TL hr (lZ.1 hq) hi,WX hi hn⟩
def ex9:ByteArray:=⟨#[102,110,32,109,97,105,110,40,41,32,123,32,97,58,32,120,32,61,32,99,111,110,115,116,32,55,32,114,101,116,117,114,110,32,120,32,125]⟩
def Nh:ByteArray:=⟨#[102,110,32,109,97,105,110,40,41,32,123,32,97,58,32,114,101,116,117,114,110,32,120,32,125]⟩
theorem WZ:(bX ex9).2.2=0:=by decide +kernel
theorem W9:(bX Nh).2.2=0:=by decide +kernel
theorem Zg:(gB (dw exP).1 (bX ex9).1).2.2=0∧(gB (dw exP).1 (bX ex9).1).1.funcs.length=1∧((gB (dw exP).1 (bX ex9).1).1.funcs.getD 0 aC).vars=1∧((gB (dw exP).1 (bX ex9).1).1.funcs.getD 0 aC).blocks.length=1∧(((gB (dw exP).1 (bX ex9).1).1.funcs.getD 0 aC).blocks.getD 0 []).length=2∧((((gB (dw exP).1 (bX ex9).1).1.funcs.getD 0 aC).blocks.getD 0 []).getD 0 op0).dst=0∧((((gB (dw exP).1 (bX ex9).1).1.funcs.getD 0 aC).blocks.getD 0 []).getD 1 op0).dst=-1∧((((gB (dw exP).1 (bX ex9).1).1.funcs.getD 0 aC).blocks.getD 0 []).getD 1 op0).args.length=1:=by decide +kernel
theorem aa0:(gB (dw exP).1 (bX Nh).1).2.1=15∧(gB (dw exP).1 (bX Nh).1).2.2=10:=by decide +kernel
set_option maxHeartbeats 4000000 in
theorem vP:Pure PG 14 [] (vb true) []:=by
 refine aI.mk (cfg 128) av [] Tryz.func14 rfl (by kernel_rfl) rfl rfl rfl ?_
 intro C x
 have s1:exP.size≤9223372036854775807:=by show (72:Nat)≤_;decide
 have s2:ex9.size≤4611686018427387904:=by show (37:Nat)≤_;decide
 have s3:Nh.size≤4611686018427387904:=by show (25:Nat)≤_;decide
 have hP:=CX Y5.1
 have eP:=Y5.1
 have hG:=tK WZ
 have hB:=tK W9
 have hc:=WY (Int.natCast_nonneg _) (Nc WZ) hP hG.1 hG.2 Zg.1
 have hr:=Zg
 have hb:=aa0
 have r1:=kY (dw exP).1 (bX ex9).1 hP.z (nO hG.1 hG.2)
 have r2:=kY (dw exP).1 (bX Nh).1 hP.z (nO hB.1 hB.2)
 have e1:=WZ
 have e2:=W9
 have px:=CO exP s1
 have pa:=vg ex9 s2
 have pb:=vg Nh s3
 clear hG hB s1 s2 s3
 obtain⟨c,hcc⟩:∃c,gB (dw exP).1 (bX ex9).1=c:=⟨_,rfl⟩
 obtain⟨d,hdd⟩:∃c,gB (dw exP).1 (bX Nh).1=c:=⟨_,rfl⟩
 rw[hcc] at hc hr r1
 rw[hdd] at hb r2
 clear hcc hdd
 obtain⟨P,hPP⟩:∃c,dw exP=c:=⟨_,rfl⟩
 obtain⟨Q,hQQ⟩:∃c,bX ex9=c:=⟨_,rfl⟩
 obtain⟨B,hBB⟩:∃c,bX Nh=c:=⟨_,rfl⟩
 rw[hPP] at hP eP hc r1 r2 px
 rw[hQQ] at e1 pa r1
 rw[hBB] at e2 pb r2
 clear hPP hQQ hBB
 obtain⟨P,u1,u2⟩:=P
 obtain⟨Q,u3,u4⟩:=Q
 obtain⟨B,u5,u6⟩:=B
 obtain⟨c,u7,u8⟩:=c
 obtain⟨d,u9,u10⟩:=d
 simp only at hP eP hc r1 r2 px e1 pa e2 pb hr hb
 obtain⟨h0,h1,h2,h3,h4,h5,h6,h7⟩:=hr
 obtain⟨b1,b2⟩:=hb
 subst eP e1 e2 h0 b1 b2
 refine x.pure rfl tR rfl px ⟨rfl,tR⟩ ?_
 refine x.pure rfl tR rfl pa ⟨rfl,tR⟩ ?_
 refine x.pure rfl tR rfl r1 ⟨⟨ah rfl,ah rfl,ah rfl,ah rfl,rfl,tR⟩,⟨ah rfl,ah rfl,tR⟩,tR⟩ ?_
 refine x.pure rfl tR rfl pb ⟨rfl,tR⟩ ?_
 refine x.pure rfl tR rfl r2 ⟨⟨ah rfl,ah rfl,ah rfl,ah rfl,rfl,tR⟩,⟨ah rfl,ah rfl,tR⟩,tR⟩ ?_
 have n1:((c.funcs.length:Nat):Int)=1:=by rw[h1];rfl
 have n3:(((c.funcs.getD 0 aC).blocks.length:Nat):Int)=1:=by rw[h3];rfl
 refine x.cond rfl (by simp only[aj,Int.toNat_zero];omega) (fun h=>?_) (fun h=>?_)
 ·exfalso
  simp only[Int.toNat_zero,n1,h2,n3] at h
  revert h
  simp
 refine x.gW rfl (by simp only[aj,Int.toNat_zero];omega) rfl (fun _=>Ub hc.1 hc.2) rfl ⟨⟨ah rfl,ah rfl,ah rfl,ah rfl,rfl,tR⟩,⟨ah rfl,ah rfl,rfl,tR⟩,tR⟩ ?_
 refine x.exit rfl ?_ ⟨.inr rfl,?_,tR,rfl⟩
 ·exact tR
 refine (show aG (vb _) (vb true) from ?_)
 simp only[Int.toNat_zero,show Int.toNat 1=1 from rfl,h4,h5,h6,h7]
 exact rfl
def tZ (x:Nat×Nat×Nat):Bool:=!(!qo (x.2.1:Int)&&(decide ((x.1:Int)=0)||!uf (x.2.1:Int)))
theorem QM (s:ByteArray):∀(n p:Nat) (c:Int),s.size≤p+n->c≤24->gH s n p c=((dl s n p).all tZ&&decide (c+(dl s n p).length≤24)&&decide (0<c+(dl s n p).length))
 | 0,p,c,h,hc=>by simp [gH,dl,hc]
 | n+1,p,c,h,hc=>by
  have:=bB s p
  rw[gH,dl]
  by_cases hp:p<s.size
  ·rw[if_pos hp,if_pos hp]
   by_cases hg:(!qo (Utf8.decode s p).1&&(decide ((p:Int)=0)||!uf (Utf8.decode s p).1))=true
   ·rw[if_pos hg,List.all_cons,show tZ (p,(Utf8.decode s p).1,(Utf8.decode s p).2)=false by unfold tZ;simp only;rw[hg];rfl]
    simp
   ·rw[if_neg hg,List.all_cons,show tZ (p,(Utf8.decode s p).1,(Utf8.decode s p).2)=true by unfold tZ;simp only;rw[Bool.not_eq_true] at hg;rw[hg];rfl]
    have e:(c+((dl s n (p+(Utf8.decode s p).2)).length+1:Nat):Int)=c+1+(dl s n (p+(Utf8.decode s p).2)).length:=by omega
    rw[List.length_cons,e,Bool.true_and]
    by_cases h24:24<c+1
    ·rw[if_pos h24,decide_eq_false (p:=c+1+((dl s n (p+(Utf8.decode s p).2)).length:Int)≤24) (by omega)]
     simp
    ·rw[if_neg h24,QM s n _ _ (by omega) (by omega)]
  ·rw[if_neg hp,if_neg hp]
   simp [hc]
theorem QN (s:ByteArray):gH s s.size 0 0=((rl s).all tZ&&decide ((rl s).length≤24)&&decide (0<(rl s).length)):=by
 rw[QM s s.size 0 0 (by omega) (by omega)]
 show ((rl s).all tZ&&decide ((0:Int)+(rl s).length≤24)&&decide ((0:Int)<0+(rl s).length))=_
 rw[show decide ((0:Int)+(rl s).length≤24)=decide ((rl s).length≤24) from decide_eq_decide.2 (by omega),show decide ((0:Int)<0+(rl s).length)=decide (0<(rl s).length) from decide_eq_decide.2 (by omega)]
theorem QO {l:List (Nat×Nat×Nat)} (h:l.all tZ=true):l.all okR=true:=by
 rw[List.all_eq_true] at h ⊢
 intro x hx
 have:=h x hx
 unfold okR
 by_cases e:x.2.1=65533
 ·unfold tZ qo uf at this
  rw[e] at this
  simp at this
 ·simp [e]
theorem Xa (c:UInt8) (hc:c.toNat<128):rl ⟨#[c]⟩=[(0,c.toNat,1)]:=by
 unfold rl
 have hb:bt ⟨#[c]⟩ 0=c.toNat:=rfl
 have hd:Utf8.decode ⟨#[c]⟩ 0=(c.toNat,1):=by rw[bG,hb,dec,if_pos hc]
 show dl ⟨#[c]⟩ 1 0=_
 rw[dl,if_pos (show 0<ByteArray.size ⟨#[c]⟩ from Nat.zero_lt_one),hd]
 rfl
theorem IE (s:ByteArray) (c:UInt8) (hc:c.toNat<128) (h:gH s s.size 0 0=true) :
  gH (s++⟨#[c]⟩) (s++(⟨#[c]⟩:ByteArray)).size 0 0=(tZ (s.size,c.toNat,1)&&!decide ((rl s).length=24)):=by
 rw[QN] at h ⊢
 simp only[adg,adn] at h
 rw[Vv _ (QO h.1.1),Xa c hc,List.all_append,h.1.1,List.length_append]
 simp only[List.map_cons,List.map_nil,List.all_cons,List.all_nil,List.length_cons,List.length_nil,Bool.true_and,Bool.and_true,shR,Nat.add_zero]
 rw[decide_eq_true (p:=0<(rl s).length+(0+1)) (by omega),Bool.and_true]
 congr 1
 by_cases e:(rl s).length=24
 ·rw[decide_eq_true e,decide_eq_false (by omega)];rfl
 ·rw[decide_eq_false e,decide_eq_true (by omega)];rfl
def lgS (s:ByteArray):Bool:=decide (s.data.toList=dK.data.toList)||decide (s.data.toList=[])
abbrev qS:ByteArray:=⟨#[95,113]⟩
def rnS (s:ByteArray):ByteArray:=if lgS s=true then s else s++qS
def fZ (s:ByteArray):Bool:=lgS s||decide (mQ s s.size 0 0≤20)
theorem Yy {s:ByteArray}:lgS s=true↔s=dK∨s=.empty:=by
 unfold lgS
 rw[Bool.or_eq_true,adn,adn]
 exact⟨fun h=>h.imp jX jX,fun h=>h.imp (fun e=>by rw[e]) (fun e=>by rw[e];rfl)⟩
theorem ac9 {a b:ByteArray} (hb:lgS b=true):a++qS≠b:=by
 intro e
 have e2:a.data.toList++[95,113]=b.data.toList:=by rw[←e,fJ]
 have e3:=congrArg List.reverse e2
 rw[List.reverse_append] at e3
 rcases Yy.1 hb with rfl | rfl
 ·exact absurd (List.cons.inj e3).1 (by decide)
 ·cases e3
theorem Xb {a b:ByteArray} (h:rnS a=rnS b):a=b:=by
 unfold rnS at h
 by_cases ha:lgS a=true<;>by_cases hb:lgS b=true
 ·rwa [if_pos ha,if_pos hb] at h
 ·rw[if_pos ha,if_neg hb] at h;exact absurd h.symm (ac9 ha)
 ·rw[if_neg ha,if_pos hb] at h;exact absurd h (ac9 hb)
 ·rw[if_neg ha,if_neg hb] at h
  have h2:=congrArg (fun s=>s.data.toList) h
  simp only[fJ] at h2
  exact jX (List.append_cancel_right h2)
theorem QS:rnS dK=dK:=if_pos (by decide)
theorem vQ:rnS .empty=.empty:=if_pos (by decide)
theorem Gc (s:ByteArray):((rnS s).data.toList=[])↔s.data.toList=[]:=by
 constructor
 ·intro h
  have h:rnS s=rnS .empty:=by rw[vQ];exact jX h
  rw[Xb h];rfl
 ·intro h
  have h:s=.empty:=jX h
  rw[h,vQ];rfl
theorem Yz:∀w∈EP,w.drop (w.length-2)≠[95,113]:=by decide
theorem Gd {s:ByteArray} (h:okN s=true) (h2:fZ s=true):okN (rnS s)=true:=by
 unfold rnS
 split
 ·exact h
 ·rename_i hl
  unfold fZ at h2
  rw[Bool.or_eq_true,adn] at h2
  have h2:=h2.resolve_left hl
  rw[Vx] at h2
  unfold okN at h ⊢
  rw[adg] at h ⊢
  obtain⟨hn,_⟩:=h
  have hn:gH s s.size 0 0=true:=hn
  have hg:(rl s).all okR=true:=by
   have:=QN s
   rw[hn] at this
   have:=this.symm
   simp only[adg] at this
   exact QO this.1.1
  have e:s++qS=s++(⟨#[95]⟩:ByteArray)++(⟨#[113]⟩:ByteArray):=jX (by simp only[fJ];rw[List.append_assoc];rfl)
  have n1:gH (s++(⟨#[95]⟩:ByteArray)) (s++(⟨#[95]⟩:ByteArray)).size 0 0=true:=by
   rw[IE s 95 (by decide) hn,decide_eq_false (by omega)]
   unfold tZ
   simp [qo]
  have e1:(rl (s++(⟨#[95]⟩:ByteArray))).length=(rl s).length+1:=by
   rw[Vv _ hg,Xa 95 (by decide),List.length_append];rfl
  have n2:Cn (s++qS)=true:=by
   rw[e]
   show gH (s++(⟨#[95]⟩:ByteArray)++(⟨#[113]⟩:ByteArray)) _ 0 0=true
   rw[IE _ 113 (by decide) n1,e1,decide_eq_false (by omega)]
   unfold tZ
   simp [qo]
  refine⟨n2,?_⟩
  rw[adt]
  unfold pR
  rw[adr]
  intro hm
  refine Yz _ hm ?_
  rw[fJ,List.length_append,show s.data.toList.length+qS.data.toList.length-2=s.data.toList.length from Nat.add_sub_cancel _ 2,List.drop_left]
theorem J3 {l:List ByteArray} (h:dZ l=true) (h2:l.all fZ=true):dZ (l.map rnS)=true:=by
 unfold dZ at *
 rw[List.all_eq_true] at *
 intro x hx
 obtain⟨s,hs,rfl⟩:=List.mem_map.1 hx
 exact Gd (h s hs) (h2 s hs)
abbrev nG (k:Int):Bool:=decide (k=7)||decide (k=11)||decide (k=12)
def rnI (x:Ins):Ins:=⟨x.kind,x.op,rnS x.dst,if nG x.kind=true then rnS x.ref else x.ref,rnS x.alt,x.args.map rnS,x.frm.map rnS,x.num,x.at_⟩
def IG (x:Ins):Bool:=fZ x.dst&&(!nG x.kind||fZ x.ref)&&fZ x.alt&&x.args.all fZ&&x.frm.all fZ
def rnB (b:Blk):Blk:=⟨rnS b.name,b.code.map rnI,b.at_⟩
def II (b:Blk):Bool:=fZ b.name&&b.code.all IG
def rnF (f:Fun):Fun:=⟨rnS f.name,f.params.map rnS,f.blocks.map rnB,f.at_⟩
def QT (f:Fun):Bool:=fZ f.name&&f.params.all fZ&&f.blocks.all II
def rnQ (q:Prg):Prg:=⟨q.arrays,q.funcs.map rnF⟩
def IJ (q:Prg):Bool:=q.funcs.all QT
theorem J4 {s:ByteArray} {b:Bool} (h:cZ s b=true) (h2:fZ s=true):cZ (rnS s) b=true:=by
 cases b with
 | true=>unfold cZ;rw[Gd (JJ h) h2];rfl
 | false=>rw[zN h,vQ];rfl
theorem Uc {x:Ins} (h:bS x=true) (h2:IG x=true):bS (rnI x)=true:=by
 unfold IG at h2
 simp only[adg] at h2
 obtain⟨⟨⟨⟨g1,g2⟩,g3⟩,g4⟩,g5⟩:=h2
 unfold bS at h
 split at h
 ·cases h
 rename_i h0
 have h0:=h0
 rw[Bool.or_eq_true,Bool.or_eq_true,not_or,not_or] at h0
 obtain⟨⟨h0,ha⟩,hf⟩:=h0
 have ha:dZ x.args=true:=by simpa using ha
 have hf:dZ x.frm=true:=by simpa using hf
 unfold bS
 rw[if_neg (show ¬((decide ((rnI x).op≠0) != decide ((rnI x).kind=2))||(decide ((rnI x).op≠0)&&decide ((opName (rnI x).op).data.toList=[]))||(decide ((rnI x).num≠0)&&decide ((rnI x).kind≠1))||!dZ (rnI x).args||!dZ (rnI x).frm)=true from ?_)]
 ·show (if x.kind=3 then _ else _)=true
  split at h
  ·rename_i hk
   rw[if_pos hk]
   simp only[adg,adn] at h ⊢
   obtain⟨⟨⟨⟨⟨h1,h2⟩,h3⟩,h4⟩,h5⟩,h6⟩:=h
   refine⟨⟨⟨⟨⟨Gd h1 g1,?_⟩,?_⟩,?_⟩,?_⟩,?_⟩
   ·show (if nG x.kind=true then rnS x.ref else x.ref).data.toList=[]
    rw[if_neg (by rw[hk];decide)];exact h2
   ·exact (Gc _).2 h3
   ·show (x.frm.map rnS).length=(x.args.map rnS).length
    rw[List.length_map,List.length_map];exact h4
   ·show 1≤(x.frm.map rnS).length
    rw[List.length_map];exact h5
   ·show (x.frm.map rnS).length≤64
    rw[List.length_map];exact h6
  ·rename_i hk
   rw[if_neg hk]
   show (match jm x.kind with | none=>false | some (n,d,r,a)=>_)=true
   split at h
   ·cases h
   ·rename_i n d r a hs
    rw[hs]
    show (!(decide (0<(x.frm.map rnS).length)||(decide (0≤n)&&decide (((x.args.map rnS).length:Int)≠n))||decide (6<(x.args.map rnS).length))&&(cZ (rnS x.dst) d&&cZ (if nG x.kind=true then rnS x.ref else x.ref) r&&cZ (rnS x.alt) a))=true
    rw[List.length_map,List.length_map]
    simp only[adg] at h ⊢
    obtain⟨h1,⟨h2,h3⟩,h4⟩:=h
    refine⟨h1,⟨J4 h2 g1,?_⟩,J4 h4 g3⟩
    split
    ·rename_i hr
     rw[hr] at g2
     exact J4 h3 g2
    ·exact h3
 ·rw[Bool.or_eq_true,Bool.or_eq_true,not_or,not_or]
  refine⟨⟨h0,?_⟩,?_⟩
  ·rw[show (rnI x).args=x.args.map rnS from rfl,J3 ha g4];simp
  ·rw[show (rnI x).frm=x.frm.map rnS from rfl,J3 hf g5];simp
theorem IK {q:Prg} (h:rightG q=true) (h2:IJ q=true):rightG (rnQ q)=true:=by
 have h:=lZ.1 h
 unfold IJ at h2
 rw[List.all_eq_true] at h2
 refine lZ.2 ⟨h.al,by show (q.funcs.map rnF).length≤64;rw[List.length_map];exact h.fl,h.arr,fun f hf=>?_,?_⟩
 ·obtain⟨f,hm,rfl⟩:=List.mem_map.1 hf
  have hF:=h.fn f hm
  have hO:=h2 f hm
  unfold QT at hO
  simp only[adg,List.all_eq_true (p:=II)] at hO
  obtain⟨⟨o1,o2⟩,o3⟩:=hO
  refine⟨Gd hF.name o1,J3 hF.FK o2,by show (f.params.map rnS).length≤6;rw[List.length_map];exact hF.pl,by show 1≤(f.blocks.map rnB).length;rw[List.length_map];exact hF.b1,by show (f.blocks.map rnB).length≤64;rw[List.length_map];exact hF.b2,fun b hb=>?_⟩
  obtain⟨b,hm2,rfl⟩:=List.mem_map.1 hb
  obtain⟨c1,c2⟩:=hF.blk b hm2
  have oB:=o3 b hm2
  unfold II at oB
  rw[adg,List.all_eq_true] at oB
  refine⟨Gd c1 oB.1,fun x hx=>?_⟩
  obtain⟨x,hm3,rfl⟩:=List.mem_map.1 hx
  exact Uc (c2 x hm3) (oB.2 x hm3)
 ·have e:iF (q.funcs.map rnF)=iF q.funcs:=by
   unfold iF
   rw[List.map_map]
   congr 1
   refine List.map_congr_left fun f _=>?_
   show ((f.blocks.map rnB).map fun b=>b.code.length).sum=_
   rw[List.map_map]
   congr 1
   refine List.map_congr_left fun b _=>?_
   show (b.code.map rnI).length=_
   rw[List.length_map]
  show iF (q.funcs.map rnF)≤4096
  rw[e];exact h.all
def Ud {α β:Type} (f:α->β):Flt α->Flt β
 | .error e=>.error e
 | .ok a=>.ok (f a)
theorem wK {α β γ:Type} (f:α->β) (r:Flt α) (k:β->Flt γ):bd (Ud f r) k=bd r fun a=>k (f a):=by cases r<;>rfl
theorem Dy {α β γ:Type} (f:β->γ) (r:Flt α) (k:α->Flt β):Ud f (bd r k)=bd r fun a=>Ud f (k a):=by cases r<;>rfl
theorem J5 (s:ByteArray):∀(i:Nat) (l:List ByteArray),oP i (l.map rnS) (rnS s)=oP i l s
 | _,[]=>rfl
 | i,a::l=>by
  rw[List.map_cons,oP,oP,J5 s (i+1) l]
  by_cases h:a.data.toList=s.data.toList
  ·rw[if_pos h,if_pos (by rw[jX h])]
  ·rw[if_neg h,if_neg fun h2=>h (by rw[Xb (jX h2)])]
theorem J6 (l:List ByteArray) (s:ByteArray):posB (l.map rnS) (rnS s)=posB l s:=by unfold posB;rw[J5]
theorem Dz (l:List ByteArray) (s:ByteArray):cO (l.map rnS) (rnS s)=cO l s:=by unfold cO;rw[J5]
theorem vR (l:List ByteArray) (s:ByteArray) (a:Int):fM (l.map rnS) (rnS s) a=fM l s a:=by unfold fM;rw[J6,Dz]
theorem Ag:∀(L:List (ByteArray×Int)) (acc:List ByteArray),fK (acc.map rnS) (L.map fun e=>(rnS e.1,e.2))=Ud (fun l=>l.map rnS) (fK acc L)
 | [],acc=>rfl
 | (s,a)::L,acc=>by
  rw[List.map_cons,fK,fK,J6]
  split
  ·rfl
  ·have:=Ag L (acc++[s])
   rw[List.map_append] at this
   exact this
def wZ (s:Scp):Scp:=⟨s.blks.map rnS,s.vals.map rnS⟩
theorem YA (l:List Ins):wV (l.map rnI)=(wV l).map fun e=>(rnS e.1,e.2):=by
 unfold wV
 rw[List.filterMap_map,List.map_filterMap]
 congr 1
 funext x
 show (if (rnS x.dst).data.toList=[] then none else some (rnS x.dst,x.at_))=_
 by_cases h:x.dst.data.toList=[]
 ·rw[if_pos h,if_pos ((Gc _).2 h)];rfl
 ·rw[if_neg h,if_neg fun g=>h ((Gc _).1 g)];rfl
theorem YB (bs:List Blk):lu (bs.map rnB)=(lu bs).map fun e=>(rnS e.1,e.2):=by
 unfold lu
 rw[List.flatMap_map,List.map_flatMap]
 congr 1
 funext b
 exact YA b.code
theorem aa1 (f:Fun):Di (rnF f)=Ud wZ (Di f):=by
 unfold Di
 have e1:(rnF f).params.map (fun s=>(s,(rnF f).at_))=(f.params.map fun s=>(s,f.at_)).map fun e=>(rnS e.1,e.2):=by
  show (f.params.map rnS).map _=_
  rw[List.map_map,List.map_map];rfl
 have e2:(rnF f).blocks.map (fun b=>(b.name,b.at_))=(f.blocks.map fun b=>(b.name,b.at_)).map fun e=>(rnS e.1,e.2):=by
  show (f.blocks.map rnB).map _=_
  rw[List.map_map,List.map_map];rfl
 have e3:lu (rnF f).blocks=(lu f.blocks).map fun e=>(rnS e.1,e.2):=YB f.blocks
 rw[e1,e2,e3]
 have h1:=Ag (f.params.map fun s=>(s,f.at_)) []
 have h2:=Ag (f.blocks.map fun b=>(b.name,b.at_)) []
 rw[List.map_nil] at h1 h2
 rw[h1,h2,wK,Dy]
 congr 1
 funext vs
 rw[wK,Dy]
 congr 1
 funext bs
 rw[Ag,wK,Dy]
 rfl
theorem QU:∀(l:List Fun) (acc:List Scp),mW (l.map rnF) (acc.map wZ)=Ud (fun l=>l.map wZ) (mW l acc)
 | [],acc=>rfl
 | f::l,acc=>by
  rw[List.map_cons,mW,mW,aa1,wK,Dy]
  congr 1
  funext s
  have:=QU l (acc++[s])
  rw[List.map_append] at this
  exact this
theorem J7 {α β:Type} (f:α->β) (l:List α) (i:Nat) (d:α):(l.map f).getD i (f d)=f (l.getD i d):=by
 rw[adf,adf,List.getElem?_map]
 cases l[i]?<;>rfl
def rnR (r:Res):Res:=⟨r.p,rnQ r.q,r.Dh,r.fns.map rnS⟩
theorem YC (r:Res) (s:Scp) (x:Ins):mK (rnR r) (wZ s) (rnI x)=mK r s x:=by
 unfold mK
 show (if x.kind=4∨x.kind=5∨x.kind=6 then bd (fM r.Dh (if nG x.kind=true then rnS x.ref else x.ref) x.at_) _
  else if x.kind=7 then bd (fM (r.fns.map rnS) (if nG x.kind=true then rnS x.ref else x.ref) x.at_) _
  else if x.kind=8 then bd (eu (fV r.p.ins (if nG x.kind=true then rnS x.ref else x.ref)) x.at_) _
  else if x.kind=9 then bd (eu (fV r.p.outs (if nG x.kind=true then rnS x.ref else x.ref)) x.at_) _
  else if x.kind=10 then bd (eu (bE r.p.lev (if nG x.kind=true then rnS x.ref else x.ref)) x.at_) _
  else if x.kind=11 then bd (fM (s.blks.map rnS) (if nG x.kind=true then rnS x.ref else x.ref) x.at_) _
  else if x.kind=12 then bd (fM (s.blks.map rnS) (if nG x.kind=true then rnS x.ref else x.ref) x.at_) (fun n=>bd (fM (s.blks.map rnS) (rnS x.alt) x.at_) _)
  else _)=_
 by_cases h4:x.kind=4∨x.kind=5∨x.kind=6
 ·rw[if_pos h4,if_pos h4,if_neg (by unfold nG;simp;omega)]
 rw[if_neg h4,if_neg h4]
 by_cases h7:x.kind=7
 ·rw[if_pos h7,if_pos h7,if_pos (by unfold nG;simp [h7]),vR]
 rw[if_neg h7,if_neg h7]
 by_cases h8:x.kind=8
 ·rw[if_pos h8,if_pos h8,if_neg (by unfold nG;simp;omega)]
 rw[if_neg h8,if_neg h8]
 by_cases h9:x.kind=9
 ·rw[if_pos h9,if_pos h9,if_neg (by unfold nG;simp;omega)]
 rw[if_neg h9,if_neg h9]
 by_cases h10:x.kind=10
 ·rw[if_pos h10,if_pos h10,if_neg (by unfold nG;simp;omega)]
 rw[if_neg h10,if_neg h10]
 by_cases h11:x.kind=11
 ·rw[if_pos h11,if_pos h11,if_pos (by unfold nG;simp [h11]),vR]
 rw[if_neg h11,if_neg h11]
 by_cases h12:x.kind=12
 ·rw[if_pos h12,if_pos h12,if_pos (by unfold nG;simp [h12]),vR]
  congr 1
  funext n
  rw[vR]
 rw[if_neg h12,if_neg h12]
theorem Gf (l:List ByteArray) (a:Int):∀(r:List ByteArray) (acc:List Int),dN (l.map rnS) a (r.map rnS) acc=dN l a r acc
 | [],acc=>rfl
 | s::r,acc=>by
  rw[List.map_cons,dN,dN,vR]
  congr 1
  funext n
  exact Gf l a r _
theorem QV (q:Prg) (n:Int):lJ (rnQ q) n=lJ q n:=by
 unfold lJ
 have:=J7 rnF q.funcs n.toNat bD
 show ((q.funcs.map rnF).getD n.toNat bD).params.length=_
 have e:rnF bD=bD:=by
  show (⟨rnS .empty,[],[],0⟩:Fun)=_
  rw[vQ];rfl
 rw[e] at this
 rw[this]
 show (List.map rnS _).length=_
 rw[List.length_map]
theorem aa2 (r:Res) (s:Scp) (x:Ins):wU (rnR r) (wZ s) (rnI x)=wU r s x:=by
 unfold wU
 rw[YC]
 congr 1
 funext ra
 show bd (dN (s.vals.map rnS) x.at_ (x.args.map rnS) []) _=_
 rw[Gf]
 congr 1
 funext az
 show bd (dN (s.blks.map rnS) x.at_ (x.frm.map rnS) []) _=_
 rw[Gf]
 congr 1
 funext fs
 show (if x.kind=7∧(x.args.map rnS).length≠lJ (rnQ r.q) ra.1 then _ else Except.ok (⟨x.kind,x.op,if (rnS x.dst).data.toList=[] then -1 else cO (s.vals.map rnS) (rnS x.dst),ra.1,ra.2,az,fs,x.num,x.at_⟩:Op9))=_
 rw[List.length_map,QV,Dz]
 by_cases h:x.dst.data.toList=[]
 ·rw[if_pos h,if_pos ((Gc _).2 h)];rfl
 ·rw[if_neg h,if_neg fun g=>h ((Gc _).1 g)];rfl
theorem Gg (code:List Ins) (i:Nat):(code.map rnI).getD i (aN 0)=rnI (code.getD i (aN 0)):=by
 have:=J7 rnI code i (aN 0)
 have e:rnI (aN 0)=aN 0:=by
  show (⟨0,0,rnS .empty, .empty,rnS .empty,[],[],0,0⟩:Ins)=_
  rw[vQ];rfl
 rw[e] at this
 exact this
theorem YD (r:Res) (s:Scp) (code:List Ins) (i:Nat):tY (rnR r) (wZ s) (code.map rnI) i=tY r s code i:=by
 unfold tY
 rw[Gg,Gg,List.length_map,aa2]
 rfl
theorem Xc (r:Res) (s:Scp) (code:List Ins):∀(f i:Nat) (acc:List Op9),zK (rnR r) (wZ s) (code.map rnI) f i acc=zK r s code f i acc
 | 0,_,_=>rfl
 | f+1,i,acc=>by
  rw[zK,zK,YD]
  congr 1
  funext y
  exact Xc r s code f _ _
theorem YE (r:Res) (s:Scp) (b:Blk):rz (rnR r) (wZ s) (rnB b)=rz r s b:=by
 unfold rz
 have e:vF (rnB b)=vF b:=by
  unfold vF
  show (decide (1≤(b.code.map rnI).length)&&lI ((b.code.map rnI).getD ((b.code.map rnI).length-1) (aN 0)).kind)=_
  rw[List.length_map,Gg];rfl
 rw[e]
 show (if vF b=true then zK (rnR r) (wZ s) (b.code.map rnI) (b.code.map rnI).length 0 [] else _)=_
 rw[List.length_map,Xc];rfl
theorem Ni (r:Res) (s:Scp):∀(l:List Blk) (acc:List (List Op9)),kg (rnR r) (wZ s) (l.map rnB) acc=kg r s l acc
 | [],acc=>rfl
 | b::l,acc=>by
  rw[List.map_cons,kg,kg,YE]
  congr 1
  funext y
  exact Ni r s l _
theorem aa3 (r:Res) (s:Scp) (f:Fun):JG (rnR r) (wZ s) (rnF f)=JG r s f:=by
 unfold JG
 show bd (kg (rnR r) (wZ s) (f.blocks.map rnB) []) _=_
 rw[Ni]
 congr 1
 funext bs
 show Except.ok (⟨((f.params.map rnS).length:Int),((s.vals.map rnS).length:Int),bs⟩:Bod)=_
 rw[List.length_map,List.length_map]
theorem QW (r:Res) (ss:List Scp):∀(l:List Fun) (i:Nat) (acc:List Bod),lK (rnR r) (ss.map wZ) (l.map rnF) i acc=lK r ss l i acc
 | [],_,_=>rfl
 | f::l,i,acc=>by
  have:=J7 wZ ss i mU
  rw[show wZ mU=mU from rfl] at this
  rw[List.map_cons,lK,lK,this,aa3]
  congr 1
  funext b
  exact QW r ss l _ _
theorem aa4 (p:Pol) (q:Prg):Dj p (rnQ q)=Dj p q:=by
 unfold Dj
 show bd (mM p q.arrays [] []) _=_
 congr 1
 funext ac
 have e1:(rnQ q).funcs.map (fun f=>(f.name,f.at_))=(q.funcs.map fun f=>(f.name,f.at_)).map fun e=>(rnS e.1,e.2):=by
  show (q.funcs.map rnF).map _=_
  rw[List.map_map,List.map_map];rfl
 have h1:=Ag (q.funcs.map fun f=>(f.name,f.at_)) []
 rw[List.map_nil] at h1
 rw[e1,h1,wK]
 congr 1
 funext fn
 have em:xH (rnQ q) (fn.map rnS)=xH q fn:=by
  unfold xH
  have a1:=J6 fn dK
  have a2:=Dz fn dK
  rw[QS] at a1 a2
  rw[a1,a2,QV]
 have a2:=Dz fn dK
 rw[QS] at a2
 rw[em,a2]
 split
 ·have h2:=QU q.funcs []
  rw[List.map_nil] at h2
  show bd (mW (q.funcs.map rnF) []) _=_
  rw[h2,wK]
  congr 1
  funext ss
  show bd (lK (rnR ⟨p,q,ac.1,fn⟩) (ss.map wZ) (q.funcs.map rnF) 0 []) _=_
  rw[QW]
 ·rfl
theorem aa5 {p:Pol} {q:Prg} (h:rightG q=true) (h2:IJ q=true):gB p (rnQ q)=gB p q:=by
 unfold gB
 rw[IK h h2,h,aa4]
end Go.Proofs.YtojhdmfkfkfcbaaGreatDoor
