import Derived.Test.YtojhdmfkfkfcbaaGreatDoorMG
import Derived.Test.YtojhdmfkfkfcbaaGreatDoorMH
import Derived.Test.YtojhdmfkfkfcbaaGreatDoorMF
import Derived.Test.YtojhdmfkfkfcbaaGreatDoorMA
import Derived.Test.YtojhdmfkfkfcbaaGreatDoorMD
import Derived.Test.YtojhdmfkfkfcbaaGreatDoorSxH
import Derived.Test.YtojhdmfkfkfcbaaGreatDoorSxG
set_option maxHeartbeats 1000000000
set_option linter.unusedSimpArgs false
set_option linter.unusedVariables false
namespace Go.Proofs.YtojhdmfkfkfcbaaGreatDoor
open Go.Sx
set_option maxRecDepth 100000
def inT(m:Int):Int->Prop:=λa=>0≤a∧a≤m
structure AtQ(m:Int->Prop)(q:Prg):Prop where
 arr:∀a∈q.arrays,m a.at_
 fn:∀f∈q.funcs,m f.at_
 blk:∀f∈q.funcs,∀b∈f.blocks,m b.at_
 ins:∀f∈q.funcs,∀b∈f.blocks,∀x∈b.code,m x.at_
theorem LA{s:BY}{l:List Tok}(H:qD s l)(k:Nat):0≤atV s l k∧atV s l k≤(s.size:Int):=by
 have:=mU (α:=Unit) (p:=λ_=>True) H k 0
 exact this
theorem ZN{s:BY}{l:List Tok}(H:qD s l):∀{xs:List Ins} {lo hi:Nat},Chn s l lo xs hi->∀x∈xs,0≤x.at_∧x.at_≤(s.size:Int)
 | [],_,_,_,x,hx=>by cases hx
 | y::ys,lo,hi,⟨k,_,_,hp,hc⟩,x,hx=>by
  rcases List.mem_cons.1 hx with rfl | hx
  ·rw[hp.1];exact LA H k
  ·exact ZN H hc x hx
theorem RP{s:BY}{l:List Tok}(H:qD s l):∀{bs:List Blk} {lo hi:Nat},ChB s l lo bs hi->∀b∈bs,(0≤b.at_∧b.at_≤(s.size:Int))∧∀x∈b.code,0≤x.at_∧x.at_≤(s.size:Int)
 | [],_,_,_,x,hx=>by cases hx
 | y::ys,lo,hi,⟨k,m,_,_,hp,hc,hr⟩,x,hx=>by
  rcases List.mem_cons.1 hx with rfl | hx
  ·exact⟨by rw[hp];exact LA H k,ZN H hc⟩
  ·exact RP H hr x hx
theorem Dn{s:BY}{l:List Tok}(H:qD s l):∀{f n c:Nat} {p:Prg} {n':Nat} {q:Prg},(∀a∈p.arrays,0≤a.at_∧a.at_≤(s.size:Int))->lS s l f n c p=.ok (n',q)->∀a∈q.arrays,0≤a.at_∧a.at_≤(s.size:Int)
 | 0,n,c,p,n',q,hp,h=>by cases h
 | f+1,n,c,p,n',q,hp,h=>by
  rw[lS] at h;split at h
  ·split at h
   ·split at h
    ·cases h
    ·obtain⟨n1,x,h1,h2⟩:=aS h
     refine Dn H (p:=⟨p.arrays++[x],p.funcs⟩) (λa ha=>?_) h2
     rcases List.mem_append.1 ha with ha | ha
     ·exact hp a ha
     ·obtain rfl:=List.mem_singleton.1 ha
      unfold vD at h1;obtain⟨n2,nm,g1,g2⟩:=aS h1;split at g2
      ·split at g2
       ·cases g2
       ·obtain⟨n3,lv,g3,g4⟩:=aS g2
        cases g4
        exact LA H n
      ·cases g2
   ·split at h
    ·split at h
     ·cases h
     ·obtain⟨n1,x,h1,h2⟩:=aS h
      exact Dn H (p:=⟨p.arrays,p.funcs++[x.2]⟩) hp h2
    ·cases h
  ·cases h;exact hp
theorem ZO{s:BY}(h:(bJ s).2.2=0):AtQ (inT s.size) (bJ s).1:=by
 have hc:=((OU s).2 h);have h0:=hc.1;have H:=GA s (CK h0)
 have ha:∀a∈(bJ s).1.arrays,0≤a.at_∧a.at_≤(s.size:Int):=by
  unfold bJ at h ⊢;rw[if_pos h0] at h ⊢
  rcases hV:lS s (eH s).1 ((eH s).1.length+1) 0 0 ⟨[],[]⟩ with⟨a,e⟩ | ⟨n',q⟩
  ·intro a ha;cases ha
  ·exact Dn H (p:=⟨[],[]⟩) (λa ha=>by cases ha) hV
 refine⟨ha,λf hf=>?_,λf hf b hb=>?_,λf hf b hb=>?_⟩
 ·obtain⟨k,hi,_,_,e,_⟩:=hc.2 f hf
  rw[e];exact LA H k
 ·obtain⟨k,hi,_,_,e,hB⟩:=hc.2 f hf
  exact (RP H hB b hb).1
 ·obtain⟨k,hi,_,_,e,hB⟩:=hc.2 f hf
  exact (RP H hB b hb).2
def Ers{α:Type}(m:Int->Prop)(r:Flt α):Prop:=∀e,r=.error e->m e.1∧e.2≠0
theorem jo{α β:Type}{m:Int->Prop}{r:Flt α}{k:α->Flt β}(h1:Ers m r)(h2:∀a,Ers m (k a)):Ers m (bd r k):=by
 rcases r with e | a
 ·intro e' he
  cases he
  exact h1 e Z
 ·exact h2 a
theorem lG{α:Type}{m:Int->Prop}(a:α):Ers m (.ok a):=λe h=>by cases h
theorem uW{α:Type}{m:Int->Prop}{a k:Int}(h:m a)(hk:k≠0:=by decide):Ers (α:=α) m (.error (a,k)):=λe he=>by cases he;exact⟨h,hk⟩
theorem BK{m:Int->Prop}:∀{L:List (BY×Int)} {acc:List BY},(∀e∈L,m e.2)->Ers m (gK acc L)
 | [],acc,_=>lG _
 | (s,a)::r,acc,h=>by
  rw[gK];split
  ·exact uW (h _ (.head _))
  ·exact BK λe he=>h e (.tail _ he)
theorem BL{m:Int->Prop}{a:Int}{l:List BY}{s:BY}(h:m a):Ers m (gL l s a):=by
 unfold gL;split
 ·exact lG _
 ·exact uW h
theorem Kj{m:Int->Prop}{n a:Int}(h:m a):Ers m (dQ n a):=by
 unfold dQ;split
 ·exact lG _
 ·exact uW h
theorem Dp{m:Int->Prop}{a:Int}{l:List BY}(h:m a):∀{r:List BY} {acc:List Int},Ers m (fE l a r acc)
 | [],_=>lG _
 | s::r,acc=>by rw[fE];exact jo (BL h) λ_=>Dp h
theorem ZP{m:Int->Prop}{R:Res}{s:Scp}{x:Ins}(h:m x.at_):Ers m (nX R s x):=by
 unfold nX
 repeat' split
 all_goals first
  | exact jo (BL h) λ_=>lG _
  | exact jo (Kj h) λ_=>lG _
  | exact jo (BL h) λ_=>jo (BL h) λ_=>lG _
  | exact lG _
theorem abI{m:Int->Prop}{R:Res}{s:Scp}{x:Ins}(h:m x.at_):Ers m (yJ R s x):=by
 unfold yJ;refine jo (ZP h) λ_=>jo (Dp h) λ_=>jo (Dp h) λ_=>?_
 split
 ·exact uW h
 ·exact lG _
theorem E9{α β:Type}{m:Int->Prop}{g:Nat->α->Flt β}:∀{l:List α} {i:Nat} {acc:List β},(∀j a,a∈l->Ers m (g j a))->Ers m (yM g l i acc)
 | [],_,_,_=>lG _
 | a::l,i,acc,h=>by rw[yM];exact jo (h _ _ (.head _)) λ_=>E9 λj b hb=>h j b (.tail _ hb)
theorem TP{m:Int->Prop}{R:Res}{s:Scp}{code:List Ins}(h:∀x∈code,m x.at_):∀(f i:Nat) (acc:List Op9),i+f=code.length->Ers m (Bg R s code f i acc)
 | 0,_,_,_=>lG _
 | f+1,i,acc,hi=>by
  rw[Bg];have hx:=h _ (getD_in (aM 0) (show i<code.length by omega))
  refine jo ?_ λ_=>TP h f (i+1) _ (by omega)
  unfold vB;split
  ·exact uW hx
  ·split
   ·exact uW hx
   ·exact abI hx
theorem TQ{m:Int->Prop}(hm:m 0){p:Pol}{q:Prg}(h:AtQ m q):Ers m (vE p q):=by
 unfold vE
 have hA:∀{l:List Arr} {acc:List BY} {cs:List Cel},(∀a∈l,m a.at_)->Ers m (lT p l acc cs):=λ{l}=>by
  induction l with
  | nil=>intro acc cs _;exact lG _
  | cons a l ih=>
   intro acc cs hl;rw[lT];split
   ·exact uW (hl _ (.head _))
   ·exact jo (Kj (hl _ (.head _))) λ_=>ih λb hb=>hl b (.tail _ hb)
 refine jo (hA h.arr) λac=>jo (BK λe he=>?_) λfn=>?_
 ·obtain⟨f,hf,rfl⟩:=List.mem_map.1 he
  exact h.fn f hf
 split
 ·refine jo ?_ λss=>jo ?_ λbs=>lG _
  ·rw[Bz q.funcs 0]
   refine E9 λj f hf=>?_
   unfold EK;refine jo (BK λe he=>?_) λvs=>jo (BK λe he=>?_) λbs=>jo (BK λe he=>?_) λ_=>lG _
   ·obtain⟨t,_,rfl⟩:=List.mem_map.1 he
    exact h.fn f hf
   ·obtain⟨b,hb,rfl⟩:=List.mem_map.1 he
    exact h.blk f hf b hb
   ·obtain⟨b,hb,he⟩:=List.mem_flatMap.1 he
    obtain⟨x,hx,he⟩:=List.mem_filterMap.1 he;split at he
    ·cases he
    ·cases he
     exact h.ins f hf b hb x hx
  ·rw[BA _ _ q.funcs 0]
   refine E9 λj f hf=>?_
   unfold K9;refine jo ?_ λ_=>lG _
   rw[Df _ _ f.blocks 0];refine E9 λk b hb=>?_
   unfold sS;split
   ·exact TP (h.ins f hf b hb) _ _ _ (by omega)
   ·exact uW (h.blk f hf b hb)
 ·exact uW hm
theorem Kk(a b:List Int)(ha:a.length*8≤140737488355328):Pure PG 59 [.d (dR a),.d (dR b)] (vb (decide (a=b))) []:=by
 refine aG.mk (cfg 26) aA [] Tryz.func59 Z (by kernel_rfl) Z Z Z ?_
 intro C x;refine x.cond Z tR (λh=>?_) (λh=>?_)
 ·have h:(!decide ((a.length:Int)=(b.length:Int)))=true:=h
  have h:¬(a.length:Int)=b.length:=by simpa using h
  refine x.exit Z tR ⟨.inr Z,?_,tR,Z⟩;rw[decide_eq_false (show ¬a=b from λe=>h (by rw[e]))];exact Z
 have h:(!decide ((a.length:Int)=(b.length:Int)))=false:=h
 have hl:a.length=b.length:=by
  have:(a.length:Int)=b.length:=by simpa using h
  omega
 refine x.loop (α:={i:Nat // i≤a.length∧∀j,j<i->a.getD j 0=b.getD j 0}) (λy=>⟨[(0,.d (dR a)),(1,.d (dR b)),(5,vi (y.1:Int))],[],0⟩) (λy=>a.length-y.1) ⟨0,Nat.zero_le _,λj hj=>by omega⟩ Z tR ⟨⟨av Z,av Z,Z,tR⟩,tR,Z⟩ (λy=>?_)
 obtain⟨i,hi,hs⟩:=y;change Go C _ ⟨[(0,.d (dR a)),(1,.d (dR b)),(5,vi (i:Int))],[],0⟩ _;refine x.cond Z tR (λh1=>?_) (λh1=>?_)
 ·have h1:i<a.length:=by have:=agP h1;omega
  refine x.quiet Z tR ay (by kernel_rfl) ?_
  refine x.eY Z (by simp only[ak];omega) ?_
  refine x.cond Z tR (λh2=>?_) (λh2=>?_)
  ·have h2:(!decide (a.getD i 0=b.getD i 0))=true:=h2
   refine x.exit Z tR ⟨.inr Z,?_,tR,Z⟩;rw[decide_eq_false (show ¬a=b from λe=>by rw[e] at h2;simp at h2)];exact Z
  ·have h2:(!decide (a.getD i 0=b.getD i 0))=false:=h2
   have h2:a.getD i 0=b.getD i 0:=by
    rw[Bool.not_eq_false',agT] at h2;exact h2
   refine x.back Z (by simp only[ak,aj];omega) ⟨⟨i+1,by omega,λj hj=>?_⟩,by show a.length-(i+1)<a.length-i;omega,⟨av Z,av Z,(show aI (vi ((i:Int)+1)) (vi ((i+1:Nat):Int)) by rw[agY];rfl),tR⟩,tR,Z⟩
   by_cases e:j=i
   ·subst e;exact h2
   ·exact hs j (by omega)
 ·have h1:i=a.length:=by have:=agQ h1;omega
  subst h1;refine x.exit Z tR ⟨.inr Z,?_,tR,Z⟩;rw[decide_eq_true (Ou hl λj hj=>hs j (by omega))];exact Z
structure Pf(p:Bool)(x y:Op9):Prop where
 kind:x.kind=y.kind
 op:x.op=y.op
 dst:x.dst=y.dst
 ref:x.ref=y.ref
 alt:x.alt=y.alt
 args:x.args=y.args
 frm:x.frm=y.frm
 num:x.num=y.num
 at_:p=true->x.at_=y.at_
structure aea(p:Bool)(l m:List Op9):Prop where
 len:l.length=m.length
 op:∀j,j<l.length->Pf p (l.getD j op0) (m.getD j op0)
structure aeb(p:Bool)(a b:Bod):Prop where
 I8:a.params=b.params
 vars:a.vars=b.vars
 len:a.blocks.length=b.blocks.length
 ops:∀k,k<a.blocks.length->aea p (a.blocks.getD k []) (b.blocks.getD k [])
structure BM(p:Bool)(a b:List Bod):Prop where
 len:a.length=b.length
 bod:∀i,i<a.length->aeb p (a.getD i aB) (b.getD i aB)
theorem Pf.self(p:Bool)(x:Op9):Pf p x x:=⟨Z,Z,Z,Z,Z,Z,Z,Z,λ_=>rfl⟩
theorem BM.self(p:Bool)(a:List Bod):BM p a a:=⟨Z,λi _=>⟨Z,Z,Z,λk _=>⟨Z,λj _=>Pf.self p _⟩⟩⟩
theorem Il(A:List Cel)(F G:List Bod)(M:Int)(p:Bool)(hal:A.length*8≤140737488355328)(hfl:F.length*8≤140737488355328)(hz:∀b∈F,abm b)(hh:BM p F G):Pure PG 18 [rO ⟨A,F,M⟩,rO ⟨A,G,M⟩,vb p] (vb true) []:=by
 have hlen:=hh.len;refine aG.mk (cfg 206) aA [] Tryz.func18 Z (by kernel_rfl) Z Z Z ?_
 intro C x;refine x.cond Z tR (λh=>?_) (λh=>?_)
 ·have h:((!decide (M=M)||!decide ((A.length:Int)=(A.length:Int)))||!decide ((F.length:Int)=(G.length:Int)))=true:=h
  rw[hlen] at h;simp at h
 clear h
 refine x.loop (α:={i:Nat // i≤A.length}) (λy=>⟨[(2,vb p),(3,.ptr 0 0),(4,.ptr 1 0),(7,vi (y.1:Int))],[(0,.box [.d (bT A),.d (bP F),vi M]),(1,.box [.d (bT A),.d (bP G),vi M])],2⟩) (λy=>A.length-y.1) ⟨0,Nat.zero_le _⟩ Z tR ⟨⟨Z,⟨Z,Z⟩,⟨Z,Z⟩,Z,tR⟩,⟨⟨ah Z,ah Z,Z,tR⟩,⟨ah Z,ah Z,Z,tR⟩,tR⟩,Z⟩ (λy=>?_)
 obtain⟨i,hi⟩:=y;change Go C _ ⟨[(2,vb p),(3,.ptr 0 0),(4,.ptr 1 0),(7,vi (i:Int))],[(0,.box [.d (bT A),.d (bP F),vi M]),(1,.box [.d (bT A),.d (bP G),vi M])],2⟩ _;refine x.cond Z tR (λh1=>?_) (λh1=>?_)
 ·have h1:i<A.length:=by have:=agP h1;omega
  refine x.quiet Z tR ay (by kernel_rfl) ?_
  refine x.eY Z (by simp only[ak];omega) ?_
  refine x.cond Z tR (λh2=>?_) (λh2=>?_)
  ·have h2:(!(decide ((A.getD i bO).1=(A.getD i bO).1)&&(decide ((A.getD i bO).2=(A.getD i bO).2)&&true)))=true:=h2
   simp at h2
  ·exact x.back Z (by simp only[ak,aj];omega) ⟨⟨i+1,by omega⟩,by show A.length-(i+1)<A.length-i;omega,⟨Z,⟨Z,Z⟩,⟨Z,Z⟩,(show aI (vi ((i:Int)+1)) (vi ((i+1:Nat):Int)) by rw[agY];rfl),tR⟩,⟨⟨ah Z,ah Z,Z,tR⟩,⟨ah Z,ah Z,Z,tR⟩,tR⟩,Z⟩
 clear h1
 refine x.loop (α:={i:Nat // i≤F.length}) (λy=>⟨[(2,vb p),(3,.ptr 0 0),(4,.ptr 1 0),(8,vi (y.1:Int))],[(0,.box [.d (bT A),.d (bP F),vi M]),(1,.box [.d (bT A),.d (bP G),vi M])],2⟩) (λy=>F.length-y.1) ⟨0,Nat.zero_le _⟩ Z tR ⟨⟨Z,⟨Z,Z⟩,⟨Z,Z⟩,Z,tR⟩,⟨⟨ah Z,ah Z,Z,tR⟩,⟨ah Z,ah Z,Z,tR⟩,tR⟩,Z⟩ (λy=>?_)
 obtain⟨i,hi⟩:=y;change Go C _ ⟨[(2,vb p),(3,.ptr 0 0),(4,.ptr 1 0),(8,vi (i:Int))],[(0,.box [.d (bT A),.d (bP F),vi M]),(1,.box [.d (bT A),.d (bP G),vi M])],2⟩ _;refine x.cond Z tR (λh1=>?_) (λh1=>?_)
 rotate_left
 ·exact x.exit Z tR ⟨.inr Z,Z,tR,Z⟩
 have h1:i<F.length:=by have:=agP h1;omega
 refine x.rE [] [0,1,2,3,4,5,6,7,8,9] (mkO [(10,[]),(11,[]),(12,[10,11]),(13,[12])] 5 [])
   ⟨[(2,vb p),(3,.ptr 0 0),(4,.ptr 1 0),(8,vi (i:Int)),(9,.ptr 2 0),(10,.ptr 3 0)],[(2,.box [vi (F.getD ((i:Int).toNat) aB).params,vi (F.getD ((i:Int).toNat) aB).vars,.d (kN (F.getD ((i:Int).toNat) aB).blocks)]),(3,.box [vi (G.getD ((i:Int).toNat) aB).params,vi (G.getD ((i:Int).toNat) aB).vars,.d (kN (G.getD ((i:Int).toNat) aB).blocks)])],4⟩
   rfl tR ay (by kernel_rfl) Ret.bG Z (by simp only[ak];omega) (λC2 x2=>?_) ?_
 ·refine⟨x2.back Z tR ⟨x2.back Z tR ⟨x2.back Z tR ⟨x2.back Z tR (.inl ?_),tR⟩,tR⟩,tR⟩,x2.back Z tR ⟨x2.back Z tR ⟨x2.back Z tR ⟨x2.back Z tR (.inr ⟨[0,1,3,2],Z,?_⟩),tR⟩,tR⟩,tR⟩,tR⟩
  ·exact⟨⟨Z,⟨Z,Z⟩,⟨Z,Z⟩,Z,⟨Z,Z⟩,⟨Z,Z⟩,tR⟩,⟨⟨Z,Z,ah Z,tR⟩,⟨Z,Z,ah Z,tR⟩,tR⟩,Z⟩
  ·exact⟨⟨Z,⟨Z,Z⟩,⟨Z,Z⟩,Z,⟨Z,Z⟩,⟨Z,Z⟩,tR⟩,⟨⟨Z,Z,ah Z,tR⟩,⟨Z,Z,ah Z,tR⟩,tR⟩,Z⟩
 rw[ag1];have hX:=hz _ (getD_in aB h1);have hY:=hh.bod i h1
 generalize F.getD i aB=X at hX hY ⊢
 generalize G.getD i aB=Y at hY ⊢
 have hl2:=hY.len;have hXl:=hX.l;refine x.cond Z tR (λh2=>?_) (λh2=>?_)
 ·have h2:((!decide (X.params=Y.params)||!decide (X.vars=Y.vars))||!decide ((X.blocks.length:Int)=(Y.blocks.length:Int)))=true:=h2
  rw[hY.I8,hY.vars,hl2] at h2;simp at h2
 clear h2
 refine x.loop (α:={k:Nat // k≤X.blocks.length}) (λy=>⟨[(2,vb p),(3,.ptr 0 0),(4,.ptr 1 0),(8,vi (i:Int)),(9,.ptr 2 0),(10,.ptr 3 0),(11,vi (y.1:Int))],[(0,.box [.d (bT A),.d (bP F),vi M]),(1,.box [.d (bT A),.d (bP G),vi M]),(2,.box [vi X.params,vi X.vars,.d (kN X.blocks)]),(3,.box [vi Y.params,vi Y.vars,.d (kN Y.blocks)])],4⟩) (λy=>X.blocks.length-y.1) ⟨0,Nat.zero_le _⟩ Z tR ⟨⟨Z,⟨Z,Z⟩,⟨Z,Z⟩,Z,⟨Z,Z⟩,⟨Z,Z⟩,Z,tR⟩,⟨⟨ah Z,ah Z,Z,tR⟩,⟨ah Z,ah Z,Z,tR⟩,⟨Z,Z,ah Z,tR⟩,⟨Z,Z,ah Z,tR⟩,tR⟩,Z⟩ (λy=>?_)
 obtain⟨k,hk⟩:=y;change Go C _ ⟨[(2,vb p),(3,.ptr 0 0),(4,.ptr 1 0),(8,vi (i:Int)),(9,.ptr 2 0),(10,.ptr 3 0),(11,vi (k:Int))],[(0,.box [.d (bT A),.d (bP F),vi M]),(1,.box [.d (bT A),.d (bP G),vi M]),(2,.box [vi X.params,vi X.vars,.d (kN X.blocks)]),(3,.box [vi Y.params,vi Y.vars,.d (kN Y.blocks)])],4⟩ _;refine x.cond Z tR (λh2=>?_) (λh2=>?_)
 rotate_left
 ·exact x.back Z (by simp only[ak,aj];omega) ⟨⟨i+1,by omega⟩,by show F.length-(i+1)<F.length-i;omega,⟨Z,⟨Z,Z⟩,⟨Z,Z⟩,(show aI (vi ((i:Int)+1)) (vi ((i+1:Nat):Int)) by rw[agY];rfl),tR⟩,⟨⟨ah Z,ah Z,Z,tR⟩,⟨ah Z,ah Z,Z,tR⟩,tR⟩,Z⟩
 have h2:k<X.blocks.length:=by have:=agP h2;omega
 obtain⟨hLl,hLz⟩:=hX.x _ (getD_in [] h2);have hO:=hY.ops k h2;have hl3:=hO.len;refine x.quiet Z tR ay (by kernel_rfl) ?_
 refine x.eY Z (by simp only[ak,ag1];omega) ?_
 refine x.cond Z tR (λh3=>?_) (λh3=>?_)
 ·have h3:(!decide (((X.blocks.getD k []).length:Int)=((Y.blocks.getD k []).length:Int)))=true:=h3
  rw[hl3] at h3;simp at h3
 clear h3
 refine x.loop (α:={m:Nat // m≤(X.blocks.getD k []).length}) (λy=>⟨[(2,vb p),(3,.ptr 0 0),(4,.ptr 1 0),(8,vi (i:Int)),(9,.ptr 2 0),(10,.ptr 3 0),(11,vi (k:Int)),(12,vi (y.1:Int))],[(0,.box [.d (bT A),.d (bP F),vi M]),(1,.box [.d (bT A),.d (bP G),vi M]),(2,.box [vi X.params,vi X.vars,.d (kN X.blocks)]),(3,.box [vi Y.params,vi Y.vars,.d (kN Y.blocks)])],4⟩) (λy=>(X.blocks.getD k []).length-y.1) ⟨0,Nat.zero_le _⟩ Z tR ⟨⟨Z,⟨Z,Z⟩,⟨Z,Z⟩,Z,⟨Z,Z⟩,⟨Z,Z⟩,Z,Z,tR⟩,⟨⟨ah Z,ah Z,Z,tR⟩,⟨ah Z,ah Z,Z,tR⟩,⟨Z,Z,ah Z,tR⟩,⟨Z,Z,ah Z,tR⟩,tR⟩,Z⟩ (λy=>?_)
 obtain⟨m,hm⟩:=y;change Go C _ ⟨[(2,vb p),(3,.ptr 0 0),(4,.ptr 1 0),(8,vi (i:Int)),(9,.ptr 2 0),(10,.ptr 3 0),(11,vi (k:Int)),(12,vi (m:Int))],[(0,.box [.d (bT A),.d (bP F),vi M]),(1,.box [.d (bT A),.d (bP G),vi M]),(2,.box [vi X.params,vi X.vars,.d (kN X.blocks)]),(3,.box [vi Y.params,vi Y.vars,.d (kN Y.blocks)])],4⟩ _;refine x.cond Z (by simp only[ak,ag1];omega) (λh3=>?_) (λh3=>?_)
 rotate_left
 ·exact x.back Z (by simp only[ak,aj];omega) ⟨⟨k+1,by omega⟩,by show X.blocks.length-(k+1)<X.blocks.length-k;omega,⟨Z,⟨Z,Z⟩,⟨Z,Z⟩,Z,⟨Z,Z⟩,⟨Z,Z⟩,(show aI (vi ((k:Int)+1)) (vi ((k+1:Nat):Int)) by rw[agY];rfl),tR⟩,⟨⟨ah Z,ah Z,Z,tR⟩,⟨ah Z,ah Z,Z,tR⟩,⟨Z,Z,ah Z,tR⟩,⟨Z,Z,ah Z,tR⟩,tR⟩,Z⟩
 have h3:(m:Int)<((X.blocks.getD k []).length:Int):=agP h3;have h3:m<(X.blocks.getD k []).length:=by omega
 refine x.rE [] [0,1,2,3,4,5,6,7,8,9,10,11,12,13,14,15] (mkO [(16,[]),(17,[]),(18,[16,17]),(19,[18])] 5 [])
   ⟨[(2,vb p),(3,.ptr 0 0),(4,.ptr 1 0),(8,vi (i:Int)),(9,.ptr 2 0),(10,.ptr 3 0),(11,vi (k:Int)),(12,vi (m:Int)),(13,.ptr 4 0),(14,.ptr 5 0)],[(4,.box [.d (.int .u8 ((X.blocks.getD ((k:Int).toNat) []).getD ((m:Int).toNat) op0).kind),.d (.int .u8 ((X.blocks.getD ((k:Int).toNat) []).getD ((m:Int).toNat) op0).op),vi ((X.blocks.getD ((k:Int).toNat) []).getD ((m:Int).toNat) op0).dst,vi ((X.blocks.getD ((k:Int).toNat) []).getD ((m:Int).toNat) op0).ref,vi ((X.blocks.getD ((k:Int).toNat) []).getD ((m:Int).toNat) op0).alt,.d (dR ((X.blocks.getD ((k:Int).toNat) []).getD ((m:Int).toNat) op0).args),.d (dR ((X.blocks.getD ((k:Int).toNat) []).getD ((m:Int).toNat) op0).frm),vi ((X.blocks.getD ((k:Int).toNat) []).getD ((m:Int).toNat) op0).num,vi ((X.blocks.getD ((k:Int).toNat) []).getD ((m:Int).toNat) op0).at_]),(5,.box [.d (.int .u8 ((Y.blocks.getD ((k:Int).toNat) []).getD ((m:Int).toNat) op0).kind),.d (.int .u8 ((Y.blocks.getD ((k:Int).toNat) []).getD ((m:Int).toNat) op0).op),vi ((Y.blocks.getD ((k:Int).toNat) []).getD ((m:Int).toNat) op0).dst,vi ((Y.blocks.getD ((k:Int).toNat) []).getD ((m:Int).toNat) op0).ref,vi ((Y.blocks.getD ((k:Int).toNat) []).getD ((m:Int).toNat) op0).alt,.d (dR ((Y.blocks.getD ((k:Int).toNat) []).getD ((m:Int).toNat) op0).args),.d (dR ((Y.blocks.getD ((k:Int).toNat) []).getD ((m:Int).toNat) op0).frm),vi ((Y.blocks.getD ((k:Int).toNat) []).getD ((m:Int).toNat) op0).num,vi ((Y.blocks.getD ((k:Int).toNat) []).getD ((m:Int).toNat) op0).at_])],6⟩
   rfl tR ay (by kernel_rfl) Ret.bG Z (by simp only[ak,ag1];omega) (λC2 x2=>?_) ?_
 ·refine⟨x2.back Z tR ⟨x2.back Z tR ⟨x2.back Z tR ⟨x2.back Z tR (.inl ?_),tR⟩,tR⟩,tR⟩,x2.back Z tR ⟨x2.back Z tR ⟨x2.back Z tR ⟨x2.back Z tR (.inr ⟨[0,1,2,3,5,4],Z,?_⟩),tR⟩,tR⟩,tR⟩,tR⟩
  ·exact⟨⟨Z,⟨Z,Z⟩,⟨Z,Z⟩,Z,⟨Z,Z⟩,⟨Z,Z⟩,Z,Z,⟨Z,Z⟩,⟨Z,Z⟩,tR⟩,⟨⟨Z,Z,Z,Z,Z,ah Z,ah Z,Z,Z,tR⟩,⟨Z,Z,Z,Z,Z,ah Z,ah Z,Z,Z,tR⟩,tR⟩,Z⟩
  ·exact⟨⟨Z,⟨Z,Z⟩,⟨Z,Z⟩,Z,⟨Z,Z⟩,⟨Z,Z⟩,Z,Z,⟨Z,Z⟩,⟨Z,Z⟩,tR⟩,⟨⟨Z,Z,Z,Z,Z,ah Z,ah Z,Z,Z,tR⟩,⟨Z,Z,Z,Z,Z,ah Z,ah Z,Z,Z,tR⟩,tR⟩,Z⟩
 rw[ag1,ag1];have hU:=hLz _ (getD_in op0 h3);have hW:=hO.op m h3
 generalize (X.blocks.getD k []).getD m op0=U at hU hW ⊢
 generalize (Y.blocks.getD k []).getD m op0=W at hW ⊢
 refine x.gG Z tR Z (λ_=>Kk U.args W.args hU.a) Z ⟨av Z,av Z,tR⟩ ?_
 refine x.gG Z tR Z (λ_=>Kk U.frm W.frm hU.f) Z ⟨av Z,av Z,tR⟩ ?_
 refine x.cond Z tR (λh4=>?_) (λh4=>?_)
 ·exfalso
  have h4:((((((((!decide (U.kind=W.kind)||!decide (U.op=W.op))||!decide (U.dst=W.dst))||!decide (U.ref=W.ref))||!decide (U.alt=W.alt))||!decide (U.num=W.num))||(p&&!decide (U.at_=W.at_)))||!decide (U.args=W.args))||!decide (U.frm=W.frm))=true:=h4
  have ha:=hW.at_;rw[hW.kind,hW.op,hW.dst,hW.ref,hW.alt,hW.num,hW.args,hW.frm] at h4
  cases p with
  | false=>simp at h4
  | true=>rw[ha rfl] at h4;simp at h4
 exact x.back Z (by simp only[ak,aj];omega) ⟨⟨m+1,by omega⟩,by show (X.blocks.getD k []).length-(m+1)<(X.blocks.getD k []).length-m;omega,⟨Z,⟨Z,Z⟩,⟨Z,Z⟩,Z,⟨Z,Z⟩,⟨Z,Z⟩,Z,(show aI (vi ((m:Int)+1)) (vi ((m+1:Nat):Int)) by rw[agY];rfl),tR⟩,⟨⟨ah Z,ah Z,Z,tR⟩,⟨ah Z,ah Z,Z,tR⟩,⟨Z,Z,ah Z,tR⟩,⟨Z,Z,ah Z,tR⟩,tR⟩,Z⟩
def Kl(c:Cod):Prop:=∀b∈c.funcs,∀l∈b.blocks,∀x∈l,aj x.num
theorem acv{p:Pol}{c:Cod}(hc:mF p c){b:Bod}(hb:b∈c.funcs){l:List Op9}(hl:l∈b.blocks){x:Op9}(hx:x∈l):abj x:=by
 have hB:=hc.bod b hb;have hv:=EY hc hb;have hbl:=hB.len;have hP:=(nG p).1 hc.pol;obtain⟨n,d,r,a,h⟩:=OH hB hl hx;have hD:=EZ h
 have hal:x.args.length≤5000000:=by
  have:x.args.length≤64:=by
   rcases wY h.sh with⟨hk,_⟩ | ⟨h3,hs⟩
   ·have:=h.phi hk;omega
   ·have hr:=BF hc hb hl hx
    rcases dx hr with⟨g,_⟩ | ⟨_,_,_,_,_,_,hi,_⟩
    ·exact absurd g h3
    ·have g:=hi.jF.2
     have e:(bg p c.main x).args.length=x.args.length:=List.length_map _;omega
  omega
 have hfl:x.frm.length≤64:=by
  rcases wY h.sh with⟨hk,_⟩ | ⟨h3,hs⟩
  ·exact (h.phi hk).2.2
  ·rw[(h.Zd h3).1];exact Nat.zero_le _
 have hcf:=hc.fl;have hca:=hc.al;refine⟨by omega,by omega,λk hk=>?_,λk hk=>?_,?_,?_,?_⟩
 ·have:=h.args k hk;unfold aj;omega
 ·have:=h.frm k hk;unfold aj;omega
 ·cases d with
  | true=>have:=Lm hB hl hx hD;unfold aj;omega
  | false=>rw[h.d0 rfl];unfold aj;omega
 ·cases r with
  | false=>rw[h.r0 rfl];unfold aj;omega
  | true=>
   have hm:=h.r1 Z
   have hpl:p.lev.length≤1000000:=by
    have:=hP.len;have ho:gI p.up=true:=by have:=hP.up;unfold gJ at this;rw[agN] at this;exact this.1
    have:=(x9 ho).2;omega
   have i1:=hP.il;have i2:=hP.ol;unfold Hq at hm;unfold aj
   repeat' split at hm
   all_goals omega
 ·cases a with
  | false=>rw[h.a0 rfl];unfold aj;omega
  | true=>have:=h.a1 rfl;unfold aj;omega
theorem ZQ{p:Pol}{c:Cod}(hc:mF p c){b:Bod}(hb:b∈c.funcs){l:List Op9}(hl:l∈b.blocks):l.length≤4096:=by
 have h1:=wV (g:=λl:List Op9=>l.length) hl
 have h2:=wV (g:=λb:Bod=>(b.blocks.map λl=>l.length).sum) hb
 have:=hc.all;omega
theorem ZR{p:Pol}{c:Cod}(hc:mF p c):Ot c:=by
 refine⟨by have:=hc.al;omega,by have:=hc.fl;omega,λb hb=>by have:=(hc.bod b hb).len;omega,λb hb l hl=>⟨by have:=ZQ hc hb hl;omega,λx hx=>acv hc hb hl hx⟩⟩
theorem Im{p:Pol}{c:Cod}(hc:mF p c):RsZ c:=by
 refine⟨by have:=hc.al;omega,by have:=hc.fl;omega,λb hb=>⟨by have:=(hc.bod b hb).len;omega,λl hl=>⟨by have:=ZQ hc hb hl;omega,λx hx=>?_⟩⟩⟩
 have:=acv hc hb hl hx;exact⟨by have:=this.a;omega,by have:=this.f;omega⟩
theorem Dq{p:Pol}{c:Cod}(hc:mF p c)(hn:Kl c):Oh (gX p c):=by
 refine yA (lF.2 (zV hc)) λf hf b hb x hx=>?_
 obtain⟨i,hi,rfl⟩:=kY.1 hf;obtain⟨k,hk,rfl⟩:=kY.1 hb;obtain⟨y,hy,rfl⟩:=List.mem_map.1 hx;exact hn _ (getD_in aB hi) _ (getD_in [] hk) y hy
theorem qz{p:Pol}{c:Cod}(hc:mF p c):ig p (gX p c)=(c,0,0):=by
 unfold ig;rw[if_pos (by rw[hc.pol,lF.2 (zV hc)];rfl),yj.2 (HV hc)];rfl
theorem Ac{α:Type}{P:α->α->Bool}{d:α}(h:∀a,P a a=true)(l:List α):lU P d l l=true:=by
 unfold lU;rw[decide_eq_true Z,Bool.true_and,wR];exact λi _ _=>h _
theorem Jd(l:List Bod):sV l l=true:=by
 refine Ac (λb=>?_) l
 unfold j5;rw[decide_eq_true Z,decide_eq_true Z,Bool.true_and,Bool.true_and];refine Ac (λl=>?_) b.blocks
 refine Ac (λx=>?_) l
 unfold oo;simp
theorem Io{p:Pol}{c:Cod}(hc:mF p c):nE p c=some (gX p c):=by
 have e1:((ig p (gX p c)).2.2)=0:=by rw[qz hc]
 have e2:((ig p (gX p c)).1)=c:=by rw[qz hc]
 unfold nE;rw[if_pos (by rw[hc.pol,decide_eq_true hc.fl,decide_eq_true hc.al];rfl),qx hc]
 simp only[e1,e2];rw[if_pos (by rw[Jd];simp)]
theorem agv{p:Pol}{c:Cod}(hc:mF p c)(hn:Kl c):Pure PG 8 [Bf p,rO c] (Lg (some (gX p c))) []:=by
 have hP:=(nG p).1 hc.pol;have h:=zS p c hP.z ⟨by have:=hP.il;omega,by have:=hP.ol;omega⟩ (ZR hc) (λq hq=>by rw[qx hc] at hq;cases hq;exact Dq hc hn) (λq hq=>by rw[qx hc] at hq;cases hq;rw[qz hc];exact Im hc)
 rwa [Io hc] at h
theorem WQ{p:Pol}{c:Cod}(hc:mF p c)(hn:Kl c):Pure PG 13 [Bf p,rO c] (vb true) []:=by
 have hP:=(nG p).1 hc.pol;have h:=Oy p c hP.z ⟨by have:=hP.il;omega,by have:=hP.ol;omega⟩ (ZR hc) (λq hq=>by rw[qx hc] at hq;cases hq;exact Dq hc hn) (λq hq=>by rw[qx hc] at hq;cases hq;rw[qz hc];exact Im hc)
 rwa [Io hc] at h
theorem Ip{p:Pol}{c:Cod}(hc:mF p c)(t:Bool):Pure PG 18 [rO c,rO c,vb t] (vb true) []:=by
 have h:=Im hc;exact Il c.arrays c.funcs c.funcs c.main t h.a h.f h.b (BM.self t _)
theorem ZT{p:Pol}{q:Prg}{c:Cod}(hi:JY p q c)(hn:∀f,f∈q.funcs->∀b,b∈f.blocks->∀x,x∈b.code->aj x.num):Kl c:=by
 intro b hb l hl x hx;obtain⟨i,hi1,rfl⟩:=List.getElem_of_mem hb;have hi2:i<q.funcs.length:=by rw[←hi.len];exact hi1
 have hB:=hi.fn i hi2;rw[show c.funcs.getD i aB=c.funcs[i] by rw[agM,agO hi1];rfl] at hB
 obtain⟨k,hk1,rfl⟩:=List.getElem_of_mem hl;have hk2:k<(q.funcs.getD i bM).blocks.length:=by rw[←hB.len];exact hk1
 have hL:=hB.blk k hk2;rw[show c.funcs[i].blocks.getD k []=c.funcs[i].blocks[k] by rw[agM,agO hk1];rfl] at hL
 obtain⟨j,hj1,rfl⟩:=List.getElem_of_mem hx;have hj2:j<((q.funcs.getD i bM).blocks.getD k bN).code.length:=by rw[←hL.len];exact hj1
 obtain⟨o,ho⟩:=Zf (wZ.1 (hL.ins j hj2)).op;have hy:=ho.y;rw[show c.funcs[i].blocks[k].getD j op0=c.funcs[i].blocks[k][j] by rw[agM,agO hj1];rfl] at hy
 rw[hy];exact hn _ (getD_in _ hi2) _ (getD_in _ hk2) _ (getD_in _ hj2)
theorem aec{m:Int}(hm:0≤m){p:Pol}{q:Prg}(hat:AtQ (inT m) q)(hp:Wt p)(hq:rightG q=true)(hn:∀f,f∈q.funcs->∀b,b∈f.blocks->∀x,x∈b.code->aj x.num)(h:(ig p q).2.2=0):mF p (ig p q).1∧Kl (ig p q).1:=by
 have hr:=(nG p).2 hp;unfold ig at h ⊢;rw[if_pos (by rw[hr,hq];rfl)] at h ⊢
 rcases hV:vE p q with⟨a,e⟩ | c
 ·exfalso
  rw[hV] at h;exact (TQ (m:=inT m) ⟨Int.le_refl _,hm⟩ hat _ hV).2 h
 ·have hi:=yj.1 hV
  exact⟨yt hr (lF.1 hq) hi,ZT hi hn⟩
def noA(x:Op9):Op9:=⟨x.kind,x.op,x.dst,x.ref,x.alt,x.args,x.frm,x.num,0⟩
def stB(b:Bod):Bod:=⟨b.params,b.vars,b.blocks.map λl=>l.map noA⟩
def stC(c:Cod):Cod:=⟨c.arrays,c.funcs.map stB,c.main⟩
theorem BN{α β:Type}(f:α->β)(l:List α)(i:Nat)(d:α):(l.map f).getD i (f d)=f (l.getD i d):=by
 rw[agM,agM,List.getElem?_map]
 cases l[i]?<;>rfl
theorem RQ(c:Cod)(i:Nat):((stC c).funcs.getD i aB).params=(c.funcs.getD i aB).params:=by
 have h:=congrArg Bod.params (BN stB c.funcs i aB)
 exact h
theorem Ph(c:Cod):(stC c).funcs.length=c.funcs.length:=List.length_map ..
theorem Iq(b:Bod):(stB b).blocks.length=b.blocks.length:=List.length_map ..
theorem ZU{p:Pol}{c:Cod}{b:Bod}{x:Op9}{n:Int}{d r a:Bool}:ROp p (stC c) (stB b) (noA x) n d r a↔ROp p c b x n d r a:=by
 have e3:=RQ c x.ref.toNat
 constructor
 ·intro h
  have h1:=h.r1;have h2:=h.a1;have h3:=h.Zd;have h4:=h.frm;rw[Ph,Iq] at h1;rw[Iq] at h2 h4
  exact⟨h.sh,h.d0,h.r0,h.a0,h.num,h.op0,h.op1,h1,h2,h.phi,λg=>by
   have h5:=h3 g
   rw[show (noA x).ref=x.ref from rfl,e3] at h5;exact h5,h.args,h4⟩
 ·intro h
  have h1:=h.r1;have h2:=h.a1;have h4:=h.frm
  exact⟨h.sh,h.d0,h.r0,h.a0,h.num,h.op0,h.op1,by rw[Ph,Iq];exact h1,by rw[Iq];exact h2,h.phi,λg=>by
   rw[show (noA x).ref=x.ref from rfl,e3];exact h.Zd g,h.args,by rw[Iq];exact h4⟩
theorem abJ(bs:List (List Op9)):ko (bs.map λl=>l.map noA)=ko bs:=by
 unfold ko;rw[List.flatMap_map]
 congr 1
 funext l
 unfold Li;rw[List.filterMap_map];rfl
theorem TR{p:Pol}{c:Cod}{b:Bod}{l:List Op9}:adN p (stC c) (stB b) (l.map noA)↔adN p c b l:=by
 have e:∀j,(l.map noA).getD j op0=noA (l.getD j op0):=λj=>BN noA l j op0
 constructor
 ·rintro ⟨h1,h2,h3,h4⟩
  rw[List.length_map] at h1 h2 h3 h4;simp only[e] at h2 h3 h4;exact⟨h1,λj hj=>by obtain⟨n,d,r,a,h⟩:=h2 j hj;exact⟨n,d,r,a,ZU.1 h⟩,h3,h4⟩
 ·rintro ⟨h1,h2,h3,h4⟩
  refine⟨by rw[List.length_map];exact h1,?_,?_,?_⟩<;>rw[List.length_map]<;>simp only[e]
  ·exact λj hj=>by obtain⟨n,d,r,a,h⟩:=h2 j hj;exact⟨n,d,r,a,ZU.2 h⟩
  ·exact h3
  ·exact h4
theorem TS{p:Pol}{c:Cod}{b:Bod}:Rh p (stC c) (stB b)↔Rh p c b:=by
 have e:ko (stB b).blocks=ko b.blocks:=abJ b.blocks
 constructor
 ·rintro ⟨h1,h2,h3,h4,h5⟩
  rw[Iq] at h2;rw[e] at h3 h4;exact⟨h1,h2,h3,h4,λl hl=>TR.1 (h5 _ (List.mem_map.2 ⟨l,hl,Z⟩))⟩
 ·rintro ⟨h1,h2,h3,h4,h5⟩
  refine⟨h1,by rw[Iq];exact h2,by rw[e];exact h3,by rw[e];exact h4,λl hl=>?_⟩
  obtain⟨l,hm,rfl⟩:=List.mem_map.1 hl;exact TR.2 (h5 l hm)
theorem ZV(fs:List Bod):((fs.map stB).map λb=>(b.blocks.map λl=>l.length).sum).sum=(fs.map λb=>(b.blocks.map λl=>l.length).sum).sum:=by
 rw[List.map_map]
 congr 1
 refine List.map_congr_left λb _=>?_
 show ((b.blocks.map λl=>l.map noA).map λl=>l.length).sum=_
 rw[List.map_map]
 congr 1
 exact List.map_congr_left λl _=>List.length_map ..
theorem TU{p:Pol}{c:Cod}:mF p (stC c)↔mF p c:=by
 constructor
 ·rintro ⟨h1,h2,h3,h4,h5,h6,h7,h8⟩
  rw[Ph] at h3 h4;rw[RQ] at h5;exact⟨h1,h2,h3,h4,h5,h6,λb hb=>TS.1 (h7 _ (List.mem_map.2 ⟨b,hb,Z⟩)),by rw[←ZV];exact h8⟩
 ·rintro ⟨h1,h2,h3,h4,h5,h6,h7,h8⟩
  refine⟨h1,h2,by rw[Ph];exact h3,by rw[Ph];exact h4,by rw[RQ];exact h5,h6,λb hb=>?_,by rw[←ZV] at h8;exact h8⟩
  obtain⟨b,hm,rfl⟩:=List.mem_map.1 hb;exact TS.2 (h7 b hm)
theorem Dr{α β:Type}{P:α->α->Bool}{d:α}{f:α->β}(hP:∀a b,P a b=true->f a=f b){a b:List α}(h:lU P d a b=true):a.map f=b.map f:=by
 unfold lU at h;rw[agN,agT] at h;exact sW d d h.1 λi hi=>hP _ _ (wR.1 h.2 i (Nat.zero_le _) (by rw[h.1];omega))
theorem WR{a b:Op9}(h:oo a b=true):noA a=noA b:=by
 unfold oo at h;simp only[agN,agT] at h;obtain⟨⟨⟨⟨⟨⟨⟨h1,h2⟩,h3⟩,h4⟩,h5⟩,h6⟩,h7⟩,h8⟩:=h;unfold noA;rw[h1,h2,h3,h4,h5,h6,h7,h8]
theorem RU{a b:Bod}(h:j5 a b=true):stB a=stB b:=by
 unfold j5 at h;simp only[agN,agT] at h;obtain⟨⟨h1,h2⟩,h3⟩:=h;unfold stB;have h4:a.blocks.map (λl=>l.map noA)=b.blocks.map λl=>l.map noA:=Dr (P:=oO) (d:=[]) (λu v g=>Dr (P:=oo) (d:=op0) (λ_ _=>WR) g) h3
 rw[h1,h2,h4]
theorem abK{p:Pol}{q:Prg}{a e:Int}(h:vE p q=.error (a,e)):e≠0:=(TQ (m:=λ_=>True) tR ⟨λ_ _=>trivial,λ_ _=>trivial,λ_ _ _ _=>trivial,λ_ _ _ _ _ _=>trivial⟩ _ h).2
theorem WS{p:Pol}{c:Cod}{q:Prg}(h:nE p c=some q):mF p c:=by
 unfold nE at h;split at h
 ·rename_i h0
  split at h
  ·cases h
  ·rename_i q' hq
   split at h
   ·rename_i h1
    simp only[agN,agT] at h1;obtain⟨h2,h3,h4,h5⟩:=h1;obtain⟨c',hc'⟩:∃c',(ig p q').1=c':=⟨_,Z⟩;rw[hc'] at h3 h4 h5
    have hr:mF p c':=by
     subst hc';unfold ig at h2 ⊢;split at h2
     ·rename_i hg
      rw[if_pos hg];rw[agN] at hg
      rcases hV:vE p q' with⟨a,e⟩ | c2
      ·rw[hV] at h2
       have h2:e=0:=h2;exact absurd h2 (abK hV)
      ·exact yt hg.1 (lF.1 hg.2) (yj.1 hV)
     ·cases h2
    have e:stC c'=stC c:=by
     unfold stC;rw[h3,h4,Dr (P:=j5) (d:=aB) (λ_ _=>RU) h5]
    exact TU.1 (e▸TU.2 hr)
   ·cases h
 ·cases h
theorem take_at{α:Type}{l:List α}{k:Nat}(h:k<l.length)(d:α):l.take (k+1)=l.take k++[l.getD k d]:=by
 rw[List.take_succ_eq_append_getElem h,agM,agO h];rfl
theorem ZW{α:Type}{P:α->Prop}{l:List α}(d:α):(∀x∈l,P x)↔∀j,j<l.length->P (l.getD j d):=
 ⟨λh j hj=>h _ (getD_in d hj),λh k hk=>by
  obtain⟨j,hj,rfl⟩:=List.getElem_of_mem hk;have:=h j hj
  rwa [agM,agO hj] at this⟩
structure OpL(x:Op9):Prop where
 a:x.args.length≤2000000000
 f:x.frm.length≤2000000000
theorem aay{α β:Type}(g:α->β){l:List α}{i:Nat}(h:i≤l.length):((l.take i).map g).length=i:=by rw[List.length_map,List.length_take];omega
theorem agw{α:Type}(e:TypeId)(N:Nat)(d:α->List D)(hd:∀a,(d a).length=N)(x0:α){l:List α}{a:α}{l':List α}(h:l'=l++[a]):mH (.vec e N (l.length+1) (app l.length (λi=>d (l.getD i x0)) λ_=>d a)) (.vec e N l'.length λi=>d (l'.getD i x0)):=by
 subst h;exact⟨Z,Z,by simp,λj hj=>xU d N hd x0 l a j hj⟩
theorem app0(z:List D)(f:Nat->List D)(i:Nat):app 0 (tab (List.replicate 0 z)) f i=f i:=by
 show (if i<0 then [] else f (i-0))=_
 rw[if_neg (by omega)];rfl
theorem oI2{i n j m:Nat}(h:i<n)(h2:j<m):ak [0≤(i:Int)∧(i:Int)<(n:Int),0≤(j:Int)∧(j:Int)<(m:Int)]:=by simp only[ak];omega
theorem oI{i n:Nat}(h:i<n):ak [0≤(i:Int)∧(i:Int)<(n:Int)]:=by simp only[ak];omega
section
variable(q:Prg)(i k j:Nat)
end
structure BodL(b:Bod):Prop where
 bl:b.blocks.length≤1000000
 ll:∀l∈b.blocks,l.length≤1000000000∧∀x∈l,OpL x
 p:aj b.params
def Ir(bs:List (List Op9)):Nat:=(bs.map λl=>l.length).sum
theorem ZX{α:Type}(f:α->Nat)(l:List α)(i:Nat):((l.take i).map f).sum≤(l.map f).sum:=by
 have:=congrArg (λm=>(m.map f).sum) (List.take_append_drop i l)
 simp only[List.map_append,List.sum_append] at this;omega
structure CodL(c:Cod):Prop where
 al:c.arrays.length≤1000000
 fl:c.funcs.length≤1000000
 b:∀b∈c.funcs,BodL b
def Pj(fs:List Bod):Nat:=(fs.map λb=>Ir b.blocks).sum
abbrev fb9(c:Cod)(i:Nat):Bod:=c.funcs.getD i aB
abbrev lb9(c:Cod)(i k:Nat):List Op9:=(fb9 c i).blocks.getD k []
theorem TV{f:Nat->List D}{i o:Nat}{ds:List D}(h:qC (f i) o ds=some (f i))(hl:∀k l,qC (f k) o ds=some l->l.length=(f k).length)(k:Nat):Cc f i o ds k=f k:=by
 unfold Cc;by_cases e:k=i
 ·subst e
  rw[h];exact jI Z _ _ Z
 ·cases hs:qC (f k) o ds with
  | none=>rfl
  | some l=>exact jJ e _ _ (hl k l hs)
theorem TW{n:Nat}{f:Nat->List D}(l:List Int)(hn:n=l.length)(h:∀i,i<l.length->f i=[.int .i64 (l.getD i 0)]):DQ (.sl 1 n f) (dR l):=by
 subst hn
 exact .sl _ _ _ _ (λi hi=>by rw[h i hi]) (λi j d d' hi h1 h2=>by
  rw[h i hi] at h1;have:=h1.symm.trans h2
  cases this;exact .refl _)
abbrev opsC(l:List Op9):Ch:=.vec 72 9 l.length λi=>dOp (l.getD i op0)
abbrev agx(l:List Bod):Ch:=.vec 60 3 l.length λi=>zN (l.getD i aB)
structure agy(c:Cod):Prop where
 al:c.arrays.length≤1000000
 fl:c.funcs.length≤1000000
 bl:∀b∈c.funcs,b.blocks.length≤1000000
 ll:∀b∈c.funcs,∀l∈b.blocks,l.length≤1000000∧∀x∈l,x.args.length≤2000000000∧x.frm.length≤2000000000
theorem RV(c:Cod)(hc:agy c):Pure PG 10 [rO c] (rO c) []:=by
 have hal:=hc.al;have hfl:=hc.fl;refine aG.mk (cfg 86) aA [] Tryz.func10 Z (by kernel_rfl) Z Z Z ?_
 intro C x;refine x.toLoop Z (by simp only[ak,big];omega) ?_
 refine Sx.Go.freeze 3 ?_;refine Go.ownB 2 1 60 3 (λi=>zN (([]:List Bod).getD i aB)) Z Z ?_
 refine x.for c.funcs.length (λs i=>s.at [1,2,3] [(4,vi i)] [(4,agx (c.funcs.take i))]) rfl tR (.ex [4] [4] ⟨rfl,tR⟩ ⟨⟨rfl,rfl,rfl,λ_ h=>absurd h (agV _)⟩,tR⟩) (λi=>rfl) (λ_=>trivial) (λi hi=>?_) ?_
 ·have hmf:=getD_in aB hi
  have hbl:(fb9 c i).blocks.length≤1000000:=hc.bl _ hmf;refine x.toLoop Z (oI hi) ?_;refine Go.own 6 61 1 (λi=>[um (([]:List (List Op9)).getD i [])]) Z ?_
  refine x.for (fb9 c i).blocks.length (λs k=>s.at [1,2,3,4,5,6] [(7,vi k)] [(6,abg ((fb9 c i).blocks.take k))]) Z tR (.ex [7] [6] ⟨Z,tR⟩ ⟨⟨Z,Z,Z,λ_ h=>absurd h (agV _)⟩,tR⟩) (λi=>rfl) (λ_=>trivial) (λk hk=>?_) ?_
  ·have hk':=hk
   simp only[fb9] at hk';have hlm:=getD_in [] hk';obtain⟨hl1,hl2⟩:=hc.ll _ hmf _ hlm;refine x.for (lb9 c i k).length (λs j=>s.at [1,2,3,4,5,6,7,8] [(9,vi j)] [(7,opsC (lb9 c i k))]) Z ?_ (.ex [9] [7] ⟨Z,tR⟩ ⟨⟨Z,Z,Nat.zero_add _,λj _=>app0 _ _ j⟩,tR⟩) (λi=>rfl) (λ_=>trivial) (λj hj=>?_) ?_
   ·simp only[ak,big,ag1];omega
   ·have hj':=hj
    simp only[lb9,fb9] at hj';have hxm:=getD_in op0 hj';obtain⟨hx1,hx2⟩:=hl2 _ hxm;have hx1:((lb9 c i k).getD j op0).args.length≤2000000000:=hx1;have hx2:((lb9 c i k).getD j op0).frm.length≤2000000000:=hx2;refine x.op Z ?_ ?_
    ·simp only[ak,big,ag1];omega
    refine Sx.Go.freeze 8 ?_;refine Sx.Go.dq 59 (dR ((lb9 c i k).getD j op0).args) Z (TW _ (Nat.zero_add _) λz hz=>app0 _ _ z) ?_
    refine x.op Z ?_ ?_
    ·rw[if_pos rfl]
     simp only[ak,big,ag1,List.length_cons,List.length_nil];omega
    refine Sx.Go.freeze 9 ?_;refine Sx.Go.dq 70 (dR ((lb9 c i k).getD j op0).frm) Z (TW _ (by rw[if_pos rfl];exact Nat.zero_add _) λz hz=>by rw[if_pos rfl];exact app0 _ _ z) ?_
    refine x.back Z (by simp only[ak,aj,List.length_cons,List.length_nil];omega) (upN hj (.ex [9] [7] ⟨Z,tR⟩ ⟨⟨Z,Z,Z,λz hz=>?_⟩,tR⟩))
    rw[ag1];have e1:Cc (λi_1=>dOp ((lb9 c i k).getD i_1 op0)) j (0+5) [dR ((lb9 c i k).getD j op0).args]=λi_1=>dOp ((lb9 c i k).getD i_1 op0):=funext λz=>TV (f:=λi_1=>dOp ((lb9 c i k).getD i_1 op0)) rfl (λ_ _ hs=>by cases hs;rfl) z
    rw[e1];exact TV (f:=λi_1=>dOp ((lb9 c i k).getD i_1 op0)) rfl (λ_ _ hs=>by cases hs;rfl) z
   ·refine Sx.Go.freeze 7 ?_
    refine x.back Z ?_ (upN hk (.ex [7] [6] ⟨Z,tR⟩ ⟨agw (a:=lb9 c i k) _ 1 (λl=>[um l]) (λ_=>rfl) [] (take_at hk []),tR⟩))
    simp only[ak,big,aj,List.length_take];omega
  ·refine Sx.Go.freeze 6 ?_
   refine x.back Z ?_ (upN hi (.ex [4] [4] ⟨Z,tR⟩ ⟨agw (a:=(⟨(fb9 c i).params,(fb9 c i).vars,(fb9 c i).blocks.take (fb9 c i).blocks.length⟩:Bod)) _ 3 zN (λ_=>rfl) aB (by rw[List.take_length];exact take_at hi aB),tR⟩))
   simp only[ak,big,aj,List.length_take];omega
 ·refine Sx.Go.freeze 4 ?_
  exact x.exit Z tR ⟨.inr Z,⟨ah Z,ah (by rw[List.take_length]),Z,tR⟩,tR,Z⟩
structure RX(c:Cod):Prop where
 f:c.funcs.length≤100
 a:c.arrays.length≤100
 b:∀b∈c.funcs,b.blocks.length≤100∧∀l∈b.blocks,l.length≤300
 n:Pj c.funcs≤300
open Classical in
noncomputable def ZY (c:Cod):Bool:=decide (RX c)
open Classical in
theorem TY{c:Cod}(h:¬RX c):ZY c=false:=decide_eq_false h
open Classical in
theorem abL{c:Cod}(h:RX c):ZY c=true:=decide_eq_true h
theorem RY(c:Cod)(hf:c.funcs.length≤1000000000000)(hc:∀b∈c.funcs,b.blocks.length≤1000000000000):Pure PG 7 [rO c,vi 300] (vb (ZY c)) []:=by
 refine aG.mk (cfg 71) aA [] Tryz.func7 Z (by kernel_rfl) Z Z Z ?_
 intro C x;have no:∀{u:Bool},u=true->¬RX c->aI (vb false) (vb (ZY c)):=λ_ h=>vbE (TY h).symm
 refine x.cond Z tR (λh=>?_) (λh=>?_)
 ·have h:(decide (100<(c.funcs.length:Int))||decide (100<(c.arrays.length:Int)))=true:=h
  refine x.exit Z tR ⟨.inr Z,no h λg=>?_,tR,Z⟩
  have:=g.f;have:=g.a;rw[decide_eq_false (by omega),decide_eq_false (by omega)] at h
  cases h
 have h:(decide (100<(c.funcs.length:Int))||decide (100<(c.arrays.length:Int)))=false:=h
 simp only[ag2,agX] at h;refine x.aeN c.funcs.length (λi=>(∀j,j<i->(c.funcs.getD j aB).blocks.length≤100∧∀l∈(c.funcs.getD j aB).blocks,l.length≤300)∧Pj (c.funcs.take i)≤300) (λs i=>s.at [1,2] [(5,vi (Pj (c.funcs.take i))),(6,vi i)] []) Z tR ⟨λj hj=>absurd hj (agV _),Nat.zero_le _⟩ (.ex [5,6] [] ⟨Z,Z,tR⟩ tR) (λi=>rfl) (λ_=>trivial) (λi hi hQ=>?_) (λhE=>?_)
 ·obtain⟨q1,q2⟩:=hQ
  have hmf:=getD_in aB hi;have ef:=take_at hi aB
  have et:Pj (c.funcs.take (i+1))=Pj (c.funcs.take i)+Ir (fb9 c i).blocks:=by
   unfold Pj;rw[ef,List.map_append,List.sum_append];simp
  refine x.dec Z (oI hi) (λh:100<((fb9 c i).blocks.length:Int)=>?_) (λh:¬100<((fb9 c i).blocks.length:Int)=>?_)
  ·refine x.exit Z tR ⟨.inr Z,no Z λg=>?_,tR,Z⟩
   have:(fb9 c i).blocks.length≤100:=(g.b _ hmf).1;omega
  have agz:(fb9 c i).blocks.length≤100:=by omega
  obtain⟨T,hT⟩:∃T,Pj (c.funcs.take i)=T:=⟨_,Z⟩
  rw[hT] at q2 et;refine x.aeN (fb9 c i).blocks.length (λk=>(∀j,j<k->((fb9 c i).blocks.getD j []).length≤300)∧Ir ((fb9 c i).blocks.take k)≤k*300) (λs k=>s.at [1,2,6] [(5,vi (T+Ir ((fb9 c i).blocks.take k):Nat)),(7,vi k)] []) Z tR ⟨λj hj=>absurd hj (agV _),Nat.zero_le _⟩ (.ex [5,7] [] ⟨viE (by rw[hT];rfl),Z,tR⟩ tR) (λi=>rfl) (λ_=>oI hi) (λk hk hQ=>?_) (λhE=>?_)
  ·obtain⟨p1,p2⟩:=hQ
   have ek:=take_at hk []
   have ec:Ir ((fb9 c i).blocks.take (k+1))=Ir ((fb9 c i).blocks.take k)+(lb9 c i k).length:=by
    unfold Ir;rw[ek,List.map_append,List.sum_append];rfl
   refine x.dec Z (oI2 hi hk) (λh:300<((lb9 c i k).length:Int)=>?_) (λh:¬300<((lb9 c i k).length:Int)=>?_)
   ·refine x.exit Z tR ⟨.inr Z,no Z λg=>?_,tR,Z⟩
    have:(lb9 c i k).length≤300:=(g.b _ hmf).2 _ (getD_in [] hk);omega
   ·refine x.back Z ?_ (upQ hk ⟨λj hj=>?_,by omega⟩ (.ex [5,7] [] ⟨viE (by rw[ec,←Nat.add_assoc];rfl),Z,tR⟩ tR))
    ·have h1:(lb9 c i k).length≤300:=by omega
     simp only[ak,aj,ag1];simp only[lb9,fb9] at h1 hk p2 agz ⊢;omega
    ·by_cases e:j=k
     ·subst e;exact (show (lb9 c i j).length≤300 by omega)
     ·exact p1 j (by omega)
  ·have e1:Ir ((fb9 c i).blocks.take (fb9 c i).blocks.length)=Ir (fb9 c i).blocks:=by rw[List.take_length]
   refine x.dec Z tR (λh2:300<((T+Ir ((fb9 c i).blocks.take (fb9 c i).blocks.length):Nat):Int)=>?_) (λh2:¬300<((T+Ir ((fb9 c i).blocks.take (fb9 c i).blocks.length):Nat):Int)=>?_)
   ·refine x.exit Z tR ⟨.inr Z,no Z λg=>?_,tR,Z⟩
    have g2:Pj (c.funcs.take (i+1))≤300:=Nat.le_trans (ZX _ _ _) g.n
    omega
   ·refine x.back Z (by simp only[ak,aj];omega) (upQ hi ⟨λj hj=>?_,by omega⟩ (.ex [5,6] [] ⟨viE (by rw[et,e1]),Z,tR⟩ tR))
    by_cases e:j=i
    ·subst e;exact⟨(show (fb9 c j).blocks.length≤100 by omega),(ZW []).2 hE.1⟩
    ·exact q1 j (by omega)
 ·have ok:RX c:=⟨by omega,by omega,(ZW aB).2 hE.1,by have:=hE.2;rw[List.take_length] at this;exact this⟩
  exact x.exit Z tR ⟨.inr Z,vbE (abL ok).symm,tR,Z⟩
theorem WT{p:Pol}{c:Cod}{q:Prg}:RsZ (ig p q).1:=by
 unfold ig;split
 ·rename_i hg
  rw[agN] at hg
  rcases hV:vE p q with⟨a,e⟩ | c2
  ·exact⟨(show 0*8≤140737488355328 by decide),(show 0*8≤140737488355328 by decide),λb hb=>by cases hb⟩
  ·exact Im (yt hg.1 (lF.1 hg.2) (yj.1 hV))
 ·exact⟨(show 0*8≤140737488355328 by decide),(show 0*8≤140737488355328 by decide),λb hb=>by cases hb⟩
variable{W:Nat}
theorem wf_u8{n:Int}(h:(Lit.int .u8 n).wf=true):0≤n∧n<256:=by
 simp only[Lit.wf,agN,agT] at h;obtain⟨h1,h2⟩:=h;have h1:0≤n:=h1;have h2:n≤255:=h2;omega
structure Pk(W:Nat)(x:Op9):Prop where
 kind:0≤x.kind∧x.kind<256
 op:0≤x.op∧x.op<256
 dst:aj x.dst
 ref:aj x.ref
 alt:aj x.alt
 num:aj x.num
 args:x.args.length*8≤W∧∀n∈x.args,aj n
 frm:x.frm.length*8≤W∧∀n∈x.frm,aj n
structure acw(W:Nat)(b:Bod):Prop where
 p:aj b.params
 v:aj b.vars
 bl:b.blocks.length*24≤W
 ll:∀l∈b.blocks,l.length*96≤W∧∀x∈l,Pk W x
structure Z0(W:Nat)(c:Cod):Prop where
 al:c.arrays.length*16≤W
 a:∀a∈c.arrays,aj a.1∧aj a.2
 fl:c.funcs.length*40≤W
 b:∀b∈c.funcs,acw W b
 m:aj c.main
abbrev Z4:List DTy:=[.int .u8,.int .u8,.int .i64,.int .i64,.int .i64,.sl 8 [.int .i64],.sl 8 [.int .i64],.int .i64,.int .i64]
abbrev aed:List DTy:=[.int .i64,.int .i64,.sl 24 [.sl 96 Z4]]
abbrev Z5:List DTy:=[.sl 16 [.int .i64,.int .i64],.sl 40 aed,.int .i64]
theorem Z6{ds:List D}(h:mZ W Z4 ds):∃x:Op9,Pk W x∧ds.length=(dOp x).length∧∀(j:Nat) (u u':D),ds[j]?=some u->(dOp x)[j]?=some u'->DQ u u':=by
 obtain⟨hl,hc⟩:=h
 match ds,hl with
 | [d0,d1,d2,d3,d4,d5,d6,d7,d8],_=>
  obtain⟨n0,rfl,w0⟩:=fF (hc 0 _ _ Z Z);obtain⟨n1,rfl,w1⟩:=fF (hc 1 _ _ Z Z);obtain⟨n2,rfl,w2⟩:=fF (hc 2 _ _ Z Z);obtain⟨n3,rfl,w3⟩:=fF (hc 3 _ _ Z Z);obtain⟨n4,rfl,w4⟩:=fF (hc 4 _ _ Z Z);obtain⟨l5,q5,w5,z5⟩:=Jq (hc 5 _ _ Z Z);obtain⟨l6,q6,w6,z6⟩:=Jq (hc 6 _ _ Z Z);obtain⟨n7,rfl,w7⟩:=fF (hc 7 _ _ Z Z);obtain⟨n8,rfl,w8⟩:=fF (hc 8 _ _ Z Z);refine⟨⟨n0,n1,n2,n3,n4,l5,l6,n7,n8⟩,⟨wf_u8 w0,wf_u8 w1,wf_i64 w2,wf_i64 w3,wf_i64 w4,wf_i64 w7,⟨w5.2,λn hn=>wf_i64 (z5 n hn)⟩,⟨w6.2,λn hn=>wf_i64 (z6 n hn)⟩⟩,Z,λj d d' hd hd'=>?_⟩
  match j with
  | 0=>simp at hd hd';subst hd hd';exact .refl _
  | 1=>simp at hd hd';subst hd hd';exact .refl _
  | 2=>simp at hd hd';subst hd hd';exact .refl _
  | 3=>simp at hd hd';subst hd hd';exact .refl _
  | 4=>simp at hd hd';subst hd hd';exact .refl _
  | 5=>simp at hd hd';subst hd hd';exact q5
  | 6=>simp at hd hd';subst hd hd';exact q6
  | 7=>simp at hd hd';subst hd hd';exact .refl _
  | 8=>simp at hd hd';subst hd hd';exact .refl _
  | j+9=>simp at hd
theorem WU{z:Nat}{x:D}(h:mM W (.sl z [.sl 96 Z4]) x):∃l:List (List Op9),DQ x (kN l)∧(l.length≤maxLen∧l.length*z≤W)∧∀a∈l,a.length*96≤W∧∀x∈a,Pk W x:=
 qy (λl=>[um l]) (λa=>a.length*96≤W∧∀x∈a,Pk W x) [] (λds ⟨hl,hc⟩=>by
  match ds,hl with
  | [d0],_=>
   obtain⟨l,q,w,z⟩:=qy dOp (Pk W) op0 (λds hd=>Z6 hd) (hc 0 _ _ Z Z)
   refine⟨l,⟨w.2,z⟩,Z,λj u u' hd hd'=>?_⟩
   match j with
   | 0=>simp at hd hd';subst hd hd';exact q
   | j+1=>simp at hd) h
theorem WV{F:Nat->Prop}{w:World}{ρ:Nat->Value}{ds:List D}{cs:List Value}(h:mZ W Z5 ds)(hr:aH (RD F w) ds cs):∃x:Cod,Z0 W x∧R3 ρ F w (rO x) (.agg cs.toArray):=by
 obtain⟨hl,hc⟩:=h
 match ds,hl,cs,hr with
 | [d0,d1,d2],_,[c0,c1,c2],⟨r0,r1,r2,_⟩=>
  obtain⟨l0,q0,w0,z0⟩:=qy (λc:Cel=>[D.int .i64 c.1,D.int .i64 c.2]) (λa:Cel=>aj a.1∧aj a.2) bO (λds ⟨hl,hc⟩=>by
   match ds,hl with
   | [d0,d1],_=>
    obtain⟨n0,rfl,w0⟩:=fF (hc 0 _ _ Z Z);obtain⟨n1,rfl,w1⟩:=fF (hc 1 _ _ Z Z);refine⟨(n0,n1),⟨wf_i64 w0,wf_i64 w1⟩,Z,λj u u' hd hd'=>?_⟩
    match j with
    | 0=>simp at hd hd';subst hd hd';exact .refl _
    | 1=>simp at hd hd';subst hd hd';exact .refl _
    | j+2=>simp at hd) (hc 0 _ _ rfl rfl)
  obtain⟨l1,q1,w1,z1⟩:=qy zN (acw W) aB (λds ⟨hl,hc⟩=>by
   match ds,hl with
   | [d0,d1,d2],_=>
    obtain⟨n0,rfl,w0⟩:=fF (hc 0 _ _ Z Z);obtain⟨n1,rfl,w1⟩:=fF (hc 1 _ _ Z Z);obtain⟨l2,q2,w2,z2⟩:=WU (hc 2 _ _ Z Z);refine⟨⟨n0,n1,l2⟩,⟨wf_i64 w0,wf_i64 w1,w2.2,z2⟩,Z,λj u u' hd hd'=>?_⟩
    match j with
    | 0=>simp at hd hd';subst hd hd';exact .refl _
    | 1=>simp at hd hd';subst hd hd';exact .refl _
    | 2=>simp at hd hd';subst hd hd';exact q2
    | j+3=>simp at hd) (hc 1 _ _ rfl rfl)
  obtain⟨n2,rfl,w2⟩:=fF (hc 2 _ _ Z Z);exact⟨⟨l0,l1,n2⟩,⟨w0.2,z0,w1.2,z1,wf_i64 w2⟩,⟨_,Z,q0.sound r0,q1.sound r1,r2,tR⟩⟩
structure LawZ(p:Pol)(c:Cod):Prop where
 z:QZ p
 pl:p.ins.length≤1000000000∧p.outs.length≤1000000000
 sz:Ot c
 cz:agy c
 l:CodL c
 n:Kl c
 q:∀q,kC p c=some q->Oh q
def wz:Nat:=8589934592
structure agA(p:Pol)(c:Cod):Prop where
 pz:Ki p
 pl:p.ins.length≤1000000000∧p.outs.length≤1000000000
 c:Z0 wz c
theorem agB{x:Op9}(h:Pk wz x):abj x:=⟨by have:=h.args.1;unfold wz at this;omega,by have:=h.frm.1;unfold wz at this;omega,h.args.2,h.frm.2,h.dst,h.ref,h.alt⟩
theorem uX{c:UInt8}{n:Int}(h:aj n):(nmN c n).size≤okL:=by have:=Y6 (c:=c) h;unfold okL;omega
theorem WW{p:Pol}{m:Int}{x:Op9}(hp:Ki p)(hx:Pk wz x):(iY p m x).1.size≤okL:=by
 have hl:∀k,(p.lev.getD k .empty).size≤okL:=λk=>by
  by_cases hk:k<p.lev.length
  ·exact hp.lev _ (getD_in _ hk)
  ·rw[agM,List.getElem?_eq_none (by omega)];exact Nat.zero_le _
 have hc:∀(l:List Chan),(∀c∈l,Jc c.1∧aj c.2)->∀k,(l.getD k bf).1.size≤okL:=λl hl k=>by
  by_cases hk:k<l.length
  ·exact (hl _ (getD_in _ hk)).1
  ·rw[agM,List.getElem?_eq_none (by omega)];exact Nat.zero_le _
 unfold iY
 repeat' split
 all_goals first
  | exact uX hx.ref
  | exact Nat.zero_le _
  | exact hl _
  | exact hc _ hp.ins _
  | exact hc _ hp.outs _
  | (show gu.size≤okL;decide)
theorem agC{p:Pol}{c:Cod}(hz:agA p c)(hs:RX c):LawZ p c:=by
 have hc:=hz.c;have hx:∀b∈c.funcs,∀l∈b.blocks,∀x∈l,Pk wz x:=λb hb l hl x hx=>((hc.b b hb).ll l hl).2 x hx
 have hf:=hs.f;have ha:=hs.a;refine⟨hz.pz.z,hz.pl,⟨by omega,by omega,λb hb=>by have:=(hs.b b hb).1;omega,λb hb l hl=>⟨by have:=(hs.b b hb).2 l hl;omega,λx h=>agB (hx b hb l hl x h)⟩⟩,⟨by omega,by omega,λb hb=>by have:=(hs.b b hb).1;omega,λb hb l hl=>⟨by have:=(hs.b b hb).2 l hl;omega,λx h=>?_⟩⟩,⟨by omega,by omega,λb hb=>⟨by have:=(hs.b b hb).1;omega,λl hl=>⟨by have:=(hs.b b hb).2 l hl;omega,λx h=>?_⟩,(hc.b b hb).p⟩⟩,λb hb l hl x h=>(hx b hb l hl x h).num,λq hq=>?_⟩
 ·have h1:=(hx b hb l hl x h).args.1
  have h2:=(hx b hb l hl x h).frm.1;unfold wz at h1 h2;omega
 ·have h1:=(hx b hb l hl x h).args.1
  have h2:=(hx b hb l hl x h).frm.1;unfold wz at h1 h2;exact⟨by omega,by omega⟩
 ·unfold kC at hq
  split at hq
  ·rename_i hk
   cases hq
   rw[agN,List.all_eq_true,List.all_eq_true] at hk;have i64:∀{i:Nat},i<1000->aj (i:Int):=λh=>by unfold aj;omega
   refine⟨by show (rng _ _).length≤_;rw[bR];unfold uE;omega,λa h=>?_,by show (rng _ _).length≤_;rw[bR];unfold uE;omega,λf h=>?_⟩
   ·obtain⟨i,hi,rfl⟩:=kY.1 h
    refine⟨uX (i64 (by omega)),?_,(hc.a _ (getD_in bO hi)).1⟩
    show (p.lev.getD _ .empty).size≤okL;by_cases hk:(c.arrays.getD i bO).2.toNat<p.lev.length
    ·exact hz.pz.lev _ (getD_in _ hk)
    ·rw[agM,List.getElem?_eq_none (by omega)];exact Nat.zero_le _
   ·obtain⟨i,hi,rfl⟩:=kY.1 h
    have hm:=getD_in aB hi;have hb1:=(hs.b _ hm).1;have hkk:=hk.2 _ hm;unfold qV at hkk;rw[agN,agN,agT,agT] at hkk;obtain⟨⟨k1,k2⟩,_⟩:=hkk;refine⟨?_,?_,λa h=>?_,?_,λb h=>?_⟩
    ·show (fnN c.main i).size≤okL
     unfold fnN;split
     ·decide
     ·exact uX (i64 (by omega))
    ·show (rng _ _).length≤_
     rw[bR];unfold EL;omega
    ·obtain⟨k,hk,rfl⟩:=kY.1 h
     exact uX (i64 (by omega))
    ·show (rng _ _).length≤_
     rw[bR];unfold uE;omega
    ·obtain⟨k,hk,rfl⟩:=kY.1 h
     have hl:=getD_in [] hk;have hl3:=(hs.b _ hm).2 _ hl;refine⟨uX (i64 (by omega)),?_,λx h=>?_⟩
     ·show (List.map _ _).length≤_
      rw[List.length_map];unfold uE;omega
     ·obtain⟨y,hy,rfl⟩:=List.mem_map.1 h
      have hY:=hx _ hm _ hl y hy;have h1:=hY.args.1;have h2:=hY.frm.1;unfold wz at h1 h2;refine⟨hY.kind,hY.op,?_,WW hz.pz hY,?_,?_,?_,λa h=>?_,λa h=>?_,hY.num⟩
      ·show (if _ then _ else _:BY).size≤okL
       split
       ·exact uX hY.dst
       ·exact Nat.zero_le _
      ·show (if _ then _ else _:BY).size≤okL
       split
       ·exact uX hY.alt
       ·exact Nat.zero_le _
      ·show (List.map _ _).length≤_
       rw[List.length_map];unfold EL;omega
      ·show (List.map _ _).length≤_
       rw[List.length_map];unfold EL;omega
      ·obtain⟨n,hn,rfl⟩:=List.mem_map.1 h
       exact uX (hY.args.2 n hn)
      ·obtain⟨n,hn,rfl⟩:=List.mem_map.1 h
       exact uX (hY.frm.2 n hn)
  ·cases hq
def ex9:BY:=⟨#[102,110,32,109,97,105,110,40,41,32,123,32,97,58,32,120,32,61,32,99,111,110,115,116,32,55,32,114,101,116,117,114,110,32,120,32,125]⟩
def Pm:BY:=⟨#[102,110,32,109,97,105,110,40,41,32,123,32,97,58,32,114,101,116,117,114,110,32,120,32,125]⟩
theorem Z7:(bJ ex9).2.2=0:=by decide +kernel
theorem Z8:(bJ Pm).2.2=0:=by decide +kernel
theorem acy:(ig (dM exP).1 (bJ ex9).1).2.2=0∧(ig (dM exP).1 (bJ ex9).1).1.funcs.length=1∧((ig (dM exP).1 (bJ ex9).1).1.funcs.getD 0 aB).vars=1∧((ig (dM exP).1 (bJ ex9).1).1.funcs.getD 0 aB).blocks.length=1∧(((ig (dM exP).1 (bJ ex9).1).1.funcs.getD 0 aB).blocks.getD 0 []).length=2∧((((ig (dM exP).1 (bJ ex9).1).1.funcs.getD 0 aB).blocks.getD 0 []).getD 0 op0).dst=0∧((((ig (dM exP).1 (bJ ex9).1).1.funcs.getD 0 aB).blocks.getD 0 []).getD 1 op0).dst=-1∧((((ig (dM exP).1 (bJ ex9).1).1.funcs.getD 0 aB).blocks.getD 0 []).getD 1 op0).args.length=1:=by decide +kernel
theorem aee:(ig (dM exP).1 (bJ Pm).1).2.1=15∧(ig (dM exP).1 (bJ Pm).1).2.2=10:=by decide +kernel
theorem xB:Pure PG 14 [] (vb true) []:=by
 refine aG.mk (cfg 128) aA [] Tryz.func14 Z (by kernel_rfl) Z Z Z ?_
 intro C x;have s1:exP.size≤9223372036854775807:=by show (72:Nat)≤_;decide
 have s2:ex9.size≤4611686018427387904:=by show (37:Nat)≤_;decide
 have s3:Pm.size≤4611686018427387904:=by show (25:Nat)≤_;decide
 have hP:=OG acf.1;have eP:=acf.1;have hG:=oQ Z7;have hB:=oQ Z8;have hc:=aec (Int.natCast_nonneg _) (ZO Z7) hP hG.1 hG.2 acy.1;have hr:=acy;have hb:=aee;have r1:=mE (dM exP).1 (bJ ex9).1 hP.z (yA hG.1 hG.2);have r2:=mE (dM exP).1 (bJ Pm).1 hP.z (yA hB.1 hB.2);have e1:=Z7;have e2:=Z8;have px:=N7 exP s1;have pa:=wJ ex9 s2;have pb:=wJ Pm s3
 clear hG hB s1 s2 s3
 obtain⟨c,hcc⟩:∃c,ig (dM exP).1 (bJ ex9).1=c:=⟨_,Z⟩;obtain⟨d,hdd⟩:∃c,ig (dM exP).1 (bJ Pm).1=c:=⟨_,Z⟩;rw[hcc] at hc hr r1;rw[hdd] at hb r2
 clear hcc hdd
 obtain⟨P,hPP⟩:∃c,dM exP=c:=⟨_,Z⟩;obtain⟨Q,hQQ⟩:∃c,bJ ex9=c:=⟨_,Z⟩;obtain⟨B,hBB⟩:∃c,bJ Pm=c:=⟨_,Z⟩;rw[hPP] at hP eP hc r1 r2 px;rw[hQQ] at e1 pa r1;rw[hBB] at e2 pb r2
 clear hPP hQQ hBB
 obtain⟨P,u1,u2⟩:=P;obtain⟨Q,u3,u4⟩:=Q;obtain⟨B,u5,u6⟩:=B;obtain⟨c,u7,u8⟩:=c;obtain⟨d,u9,u10⟩:=d;simp only at hP eP hc r1 r2 px e1 pa e2 pb hr hb;obtain⟨h0,h1,h2,h3,h4,h5,h6,h7⟩:=hr;obtain⟨b1,b2⟩:=hb;subst eP e1 e2 h0 b1 b2;refine x.pure Z tR Z px ⟨Z,tR⟩ ?_;refine x.pure Z tR Z pa ⟨Z,tR⟩ ?_;refine x.pure Z tR Z r1 ⟨⟨ah Z,ah Z,ah Z,ah Z,Z,tR⟩,⟨ah Z,ah Z,tR⟩,tR⟩ ?_;refine x.pure Z tR Z pb ⟨Z,tR⟩ ?_;refine x.pure Z tR Z r2 ⟨⟨ah Z,ah Z,ah Z,ah Z,Z,tR⟩,⟨ah Z,ah Z,tR⟩,tR⟩ ?_;have n1:((c.funcs.length:Nat):Int)=1:=by rw[h1];rfl
 have n3:(((c.funcs.getD 0 aB).blocks.length:Nat):Int)=1:=by rw[h3];rfl
 refine x.cond Z (by simp only[ak,Int.toNat_zero];omega) (λh=>?_) (λh=>?_)
 ·exfalso
  simp only[Int.toNat_zero,n1,h2,n3] at h
  revert h
  simp
 refine x.gG Z (by simp only[ak,Int.toNat_zero];omega) Z (λ_=>WQ hc.1 hc.2) Z ⟨⟨ah Z,ah Z,ah Z,ah Z,Z,tR⟩,⟨ah Z,ah Z,Z,tR⟩,tR⟩ ?_
 refine x.exit Z ?_ ⟨.inr Z,?_,tR,Z⟩
 ·exact tR
 refine (show aI (vb _) (vb true) from ?_)
 simp only[Int.toNat_zero,show Int.toNat 1=1 from rfl,h4,h5,h6,h7]
 exact Z
def zR{α β:Type}(f:α->β):Flt α->Flt β
 | .error e=>.error (0,e.2)
 | .ok a=>.ok (f a)
theorem kS{α β γ δ:Type}{f:α->β}{g:γ->δ}{r:Flt α}{k:α->Flt γ}{r':Flt β}{k':β->Flt δ}(h:r'=zR f r)(h2:∀a,k' (f a)=zR g (k a)):bd r' k'=zR g (bd r k):=by
 subst h
 cases r with
 | error e=>rfl
 | ok a=>exact h2 a
theorem Pn:∀(L:List (BY×Int)) (acc:List BY),gK acc (L.map λe=>(e.1,0))=zR (λl=>l) (gK acc L)
 | [],acc=>rfl
 | (s,a)::L,acc=>by
  rw[List.map_cons,gK,gK];split
  ·rfl
  ·exact Pn L _
theorem LB(l:List BY)(s:BY)(a:Int):gL l s 0=zR (λn=>n) (gL l s a):=by
 unfold gL;split<;>rfl
theorem T9(n a:Int):dQ n 0=zR (λn=>n) (dQ n a):=by
 unfold dQ;split<;>rfl
theorem aef(r r':Res)(h:r'.zL=r.zL∧r'.fns=r.fns∧r'.p=r.p)(s:Scp)(x:Ins):nX r' s (erI x)=zR (λn=>n) (nX r s x):=by
 obtain⟨h1,h2,h3⟩:=h;unfold nX;rw[h1,h2,h3];show (if x.kind=4∨x.kind=5∨x.kind=6 then bd (gL r.zL x.ref 0) _ else if x.kind=7 then bd (gL r.fns x.ref 0) _ else if x.kind=8 then bd (dQ (gT r.p.ins x.ref) 0) _ else if x.kind=9 then bd (dQ (gT r.p.outs x.ref) 0) _ else if x.kind=10 then bd (dQ (bH r.p.lev x.ref) 0) _ else if x.kind=11 then bd (gL s.blks x.ref 0) _ else if x.kind=12 then bd (gL s.blks x.ref 0) (λn=>bd (gL s.blks x.alt 0) _) else _)=_
 repeat' split
 all_goals first
  | exact kS (LB _ _ _) λ_=>kS (LB _ _ _) λ_=>rfl
  | exact kS (LB _ _ _) λ_=>rfl
  | exact kS (T9 _ _) λ_=>rfl
  | rfl
theorem LC(l:List BY)(a:Int):∀(r:List BY) (acc:List Int),fE l 0 r acc=zR (λn=>n) (fE l a r acc)
 | [],acc=>rfl
 | s::r,acc=>by
  rw[fE,fE];exact kS (LB _ _ _) λn=>LC l a r _
theorem Ua(q:Prg)(n:Int):nY (erP q) n=nY q n:=by
 have h:=congrArg (λf:Fun=>f.params.length) (BN erF q.funcs n.toNat bM)
 exact h
structure RZ(r' r:Res):Prop where
 a:r'.zL=r.zL
 f:r'.fns=r.fns
 p:r'.p=r.p
 q:r'.q=erP r.q
theorem agD{r' r:Res}(h:RZ r' r)(s:Scp)(x:Ins):yJ r' s (erI x)=zR noA (yJ r s x):=by
 unfold yJ;refine kS (aef r r' ⟨h.a,h.f,h.p⟩ s x) λra=>?_
 refine kS (LC _ x.at_ _ _) λaz=>?_
 refine kS (LC _ x.at_ _ _) λfs=>?_
 rw[h.q,Ua];show (if x.kind=7∧x.args.length≠nY r.q ra.1 then _ else _)=_
 split<;>rfl
theorem LD(code:List Ins)(i:Nat):(code.map erI).getD i (aM 0)=erI (code.getD i (aM 0)):=BN erI code i (aM 0)
theorem aeg{r' r:Res}(h:RZ r' r)(s:Scp)(code:List Ins)(i:Nat):vB r' s (code.map erI) i=zR noA (vB r s code i):=by
 unfold vB;rw[LD,LD,List.length_map];show (if mq (code.getD i (aM 0)).kind=true∧i+1≠code.length then _ else if (code.getD i (aM 0)).kind=3∧i≠0∧(code.getD (i-1) (aM 0)).kind≠3 then _ else _)=_
 split
 ·rfl
 ·split
  ·rfl
  ·exact agD h s _
theorem acz{r' r:Res}(h:RZ r' r)(s:Scp)(code:List Ins):∀(f i:Nat) (acc:List Op9),Bg r' s (code.map erI) f i (acc.map noA)=zR (λl=>l.map noA) (Bg r s code f i acc)
 | 0,_,_=>rfl
 | f+1,i,acc=>by
  rw[Bg,Bg];refine kS (aeg h s code i) λy=>?_
  have:=acz h s code f (i+1) (acc++[y]);rw[List.map_append] at this;exact this
theorem aeh{r' r:Res}(h:RZ r' r)(s:Scp)(b:Blk):sS r' s (erB b)=zR (λl=>l.map noA) (sS r s b):=by
 unfold sS
 have e:wS (erB b)=wS b:=by
  unfold wS;show (decide (1≤(b.code.map erI).length)&&mq ((b.code.map erI).getD ((b.code.map erI).length-1) (aM 0)).kind)=_;rw[List.length_map,LD];rfl
 rw[e];show (if wS b=true then Bg r' s (b.code.map erI) (b.code.map erI).length 0 [] else _)=_
 rw[List.length_map];split
 ·exact acz h s b.code _ _ []
 ·rfl
theorem Ub{r' r:Res}(h:RZ r' r)(s:Scp):∀(l:List Blk) (acc:List (List Op9)),mD r' s (l.map erB) (acc.map λl=>l.map noA)=zR (λl=>l.map λl=>l.map noA) (mD r s l acc)
 | [],acc=>rfl
 | b::l,acc=>by
  rw[List.map_cons,mD,mD];refine kS (aeh h s b) λy=>?_
  have:=Ub h s l (acc++[y]);rw[List.map_append] at this;exact this
theorem agE{r' r:Res}(h:RZ r' r)(s:Scp)(f:Fun):K9 r' s (erF f)=zR stB (K9 r s f):=by
 unfold K9;exact kS (Ub h s f.blocks []) λbs=>rfl
theorem Z9{r' r:Res}(h:RZ r' r)(ss:List Scp):∀(l:List Fun) (i:Nat) (acc:List Bod),nZ r' ss (l.map erF) i (acc.map stB)=zR (λl=>l.map stB) (nZ r ss l i acc)
 | [],_,_=>rfl
 | f::l,i,acc=>by
  rw[List.map_cons,nZ,nZ];refine kS (agE h _ f) λb=>?_
  have:=Z9 h ss l (i+1) (acc++[b]);rw[List.map_append] at this;exact this
theorem aei(bs:List Blk):mI (bs.map erB)=(mI bs).map λe=>(e.1,0):=by
 unfold mI;rw[List.flatMap_map,List.map_flatMap]
 congr 1
 funext b
 show zM (b.code.map erI)=_;unfold zM;rw[List.filterMap_map,List.map_filterMap]
 congr 1
 funext x
 show (if x.dst.data.toList=[] then none else some (x.dst,(0:Int)))=_
 by_cases h:x.dst.data.toList=[]
 ·rw[if_pos h,if_pos h];rfl
 ·rw[if_neg h,if_neg h];rfl
theorem agF(f:Fun):EK (erF f)=zR (λs=>s) (EK f):=by
 unfold EK
 have e1:(erF f).params.map (λs=>(s,(erF f).at_))=(f.params.map λs=>(s,f.at_)).map λe=>(e.1,0):=by
  rw[List.map_map];rfl
 have e2:(erF f).blocks.map (λb=>(b.name,b.at_))=(f.blocks.map λb=>(b.name,b.at_)).map λe=>(e.1,0):=by
  show (f.blocks.map erB).map _=_;rw[List.map_map,List.map_map];rfl
 have e3:mI (erF f).blocks=(mI f.blocks).map λe=>(e.1,0):=aei f.blocks
 rw[e1,e2,e3];exact kS (Pn _ _) λvs=>kS (Pn _ _) λbs=>kS (Pn _ _) λ_=>rfl
theorem aac:∀(l:List Fun) (acc:List Scp),qj (l.map erF) acc=zR (λl=>l) (qj l acc)
 | [],acc=>rfl
 | f::l,acc=>by
  rw[List.map_cons,qj,qj];exact kS (agF f) λs=>aac l _
theorem aad(p:Pol):∀(l:List Arr) (acc:List BY) (cs:List Cel),lT p (l.map erA) acc cs=zR (λo=>o) (lT p l acc cs)
 | [],acc,cs=>rfl
 | a::l,acc,cs=>by
  rw[List.map_cons,lT,lT];show (if posB acc a.name=true then _ else bd (dQ (bH p.lev a.level) 0) _)=_
  split
  ·rfl
  ·exact kS (T9 _ _) λk=>aad p l _ _
theorem acA(p:Pol)(q:Prg):vE p (erP q)=zR stC (vE p q):=by
 unfold vE;refine kS (aad p q.arrays [] []) λac=>?_
 have e1:(erP q).funcs.map (λf=>(f.name,f.at_))=(q.funcs.map λf=>(f.name,f.at_)).map λe=>(e.1,0):=by
  show (q.funcs.map erF).map _=_
  rw[List.map_map,List.map_map];rfl
 rw[e1];refine kS (Pn _ _) λfn=>?_
 have em:yX (erP q) fn=yX q fn:=by
  unfold yX;rw[Ua]
 rw[em];split
 ·refine kS (aac q.funcs []) λss=>?_
  refine kS (Z9 (r':=⟨p,erP q,ac.1,fn⟩) (r:=⟨p,q,ac.1,fn⟩) ⟨Z,Z,Z,Z⟩ ss q.funcs 0 []) λbs=>rfl
 ·rfl
theorem WX{p:Pol}{q q':Prg}{c:Cod}(h:erP q'=erP q)(hc:vE p q=.ok c):∃c',vE p q'=.ok c'∧stC c'=stC c:=by
 have h1:=acA p q';rw[h,acA p q,hc] at h1
 cases h2:vE p q' with
 | error e=>rw[h2] at h1;cases h1
 | ok c'=>
  rw[h2] at h1;exact⟨c',Z,(Except.ok.inj h1).symm⟩
theorem aej{a b:Op9}(h:noA a=noA b):Pf false a b:=by
 unfold noA at h
 injection h with h1 h2 h3 h4 h5 h6 h7 h8 h9
 exact⟨h1,h2,h3,h4,h5,h6,h7,h8,λg=>by cases g⟩
theorem R4{α β:Type}{f:α->β}(d:α){l m:List α}(h:l.map f=m.map f):l.length=m.length∧∀i,i<l.length->f (l.getD i d)=f (m.getD i d):=by
 refine⟨by have:=congrArg List.length h;rwa [List.length_map,List.length_map] at this,λi _=>?_⟩
 have:=congrArg (λl=>l.getD i (f d)) h
 simp only[BN] at this;exact this
theorem aae{a b:List Bod}(h:a.map stB=b.map stB):BM false a b:=by
 obtain⟨h1,h2⟩:=R4 aB h;refine⟨h1,λi hi=>?_⟩
 have h3:=h2 i hi;unfold stB at h3
 injection h3 with g1 g2 g3
 obtain⟨h4,h5⟩:=R4 [] g3;refine⟨g1,g2,h4,λk hk=>?_⟩
 obtain⟨h6,h7⟩:=R4 op0 (h5 k hk);exact⟨h6,λj hj=>aej (h7 j hj)⟩
theorem sZ{l:List BY}(h:(l.length:Int)=1):l=[l.getD 0 .empty]:=by
 match l,h with
 | [a],_=>rfl
 | [],h=>simp at h
 | _::_::_,h=>simp at h;omega
theorem Po{l:List BY}(h:(l.length:Int)=2):l=[l.getD 0 .empty,l.getD 1 .empty]:=by
 match l,h with
 | [a,b],_=>rfl
 | [],h=>simp at h
 | [_],h=>simp at h
 | _::_::_::_,h=>simp at h;omega
theorem LG{l:List BY}(h:(l.length:Int)=0):l=[]:=List.eq_nil_of_length_eq_zero (by omega)
theorem nJ{x:Ins}{k o n:Int}{d r b:BY}{ps fs:List BY}(a:Int)(h1:x.kind=k)(h2:x.op=o)(h3:x.dst=d)(h4:x.ref=r)(h5:x.alt=b)(h6:x.args=ps)(h7:x.frm=fs)(h8:x.num=n):({x with at_:=a}:Ins)=⟨k,o,d,r,b,ps,fs,n,a⟩:=by
 subst h1 h2 h3 h4 h5 h6 h7 h8;rfl
theorem aaf{o:Int}(h0:1≤o)(h1:o<13):((opV (opName o):Nat):Int)=o:=by
 have h:∀n,n<13->1≤n->opV (opAt n)=n:=by decide +kernel
 have e:opName o=opAt o.toNat:=by unfold opName;rw[if_neg (by omega)]
 rw[e,h o.toNat (by omega) (by omega)]
 omega
theorem WY{k n:Int}{d r a:Bool}(h:cB k=some (n,d,r,a))(h6:k≠6)(h9:k≠9)(h11:k≠11)(h12:k≠12)(h13:k≠13):d=true:=by
 unfold cB at h;by_cases e1:k=1
 ·rw[if_pos e1] at h
  have h2:=agS h;exact ((Prod.mk.inj (Prod.mk.inj h2).2).1).symm
 rw[if_neg e1] at h;by_cases e2:k=2
 ·rw[if_pos e2] at h
  have h2:=agS h;exact ((Prod.mk.inj (Prod.mk.inj h2).2).1).symm
 rw[if_neg e2] at h;by_cases e4:k=4
 ·rw[if_pos e4] at h
  have h2:=agS h;exact ((Prod.mk.inj (Prod.mk.inj h2).2).1).symm
 rw[if_neg e4] at h;by_cases e5:k=5
 ·rw[if_pos e5] at h
  have h2:=agS h;exact ((Prod.mk.inj (Prod.mk.inj h2).2).1).symm
 rw[if_neg e5] at h;rw[if_neg h6] at h;by_cases e7:k=7
 ·rw[if_pos e7] at h
  have h2:=agS h;exact ((Prod.mk.inj (Prod.mk.inj h2).2).1).symm
 rw[if_neg e7] at h;by_cases e8:k=8
 ·rw[if_pos e8] at h
  have h2:=agS h;exact ((Prod.mk.inj (Prod.mk.inj h2).2).1).symm
 rw[if_neg e8] at h;rw[if_neg h9] at h;by_cases e10:k=10
 ·rw[if_pos e10] at h
  have h2:=agS h;exact ((Prod.mk.inj (Prod.mk.inj h2).2).1).symm
 rw[if_neg e10] at h;rw[if_neg h11] at h;rw[if_neg h12] at h;rw[if_neg h13] at h
 cases h
theorem LH{x:Ins}(hr:bC x=true)(h6:x.kind≠6)(h9:x.kind≠9)(h11:x.kind≠11)(h12:x.kind≠12)(h13:x.kind≠13):okN x.dst=true:=by
 rcases dx hr with⟨_,hp⟩ | ⟨n',d,r,b,hs,h3,hi,_⟩
 ·exact hp.dst
 ·have e:=WY hs h6 h9 h11 h12 h13
  subst e;exact oN hi.dst
section
variable{s:BY}{l:List Tok}{n:Nat}{T:Tks}
theorem Iu{w:BY}(h:AtT s l n ((1,w)::T))(x:Ins):lq s l n x=.ok (n+1,{x with args:=x.args++[w]}):=by
 unfold lq;rw[Ab h];rfl
theorem Pp{w:BY}(h:AtT s l n ((1,w)::T))(x:Ins):rF s l n x=.ok (n+1,{x with ref:=w}):=by
 unfold rF;rw[Ab h];rfl
theorem R5{w:BY}(h:AtT s l n ((1,w)::T))(x:Ins):l9 s l n x=.ok (n+1,{x with args:=[w]}):=by
 unfold l9;rw[Ab h];rfl
theorem Ad{w:BY}(h:AtT s l n ((2,w)::T))(ho:opV w=0)(y:Ins):dG s l n y=AY s l n y w.data.toList:=by
 unfold dG;rw[h.hd.2.2.1,if_neg (by rw[ho];simp)]
theorem abM{x:Ins}(hr:bC x=true)(hn:aj x.num)(h6:x.kind≠6)(h9:x.kind≠9)(h11:x.kind≠11)(h12:x.kind≠12)(h13:x.kind≠13)(a:Int)(h:AtT s l n (tkV x++T)) :
  dG s l n {aM a with dst:=x.dst}=.ok (n+(tkV x).length,{x with at_:=a}):=by
 rcases dx hr with⟨hk3,hp⟩ | ⟨n',d,r,b,hs,h3,hi,hop⟩
 ·have tk:tkV x=(2,⟨#[112,104,105]⟩)::(4,⟨#[91]⟩)::(jm x++[(4,⟨#[93]⟩)]):=by unfold tkV;rw[hk3];rfl
  rw[tk] at h ⊢;have h:AtT s l n ((2,⟨#[112,104,105]⟩)::((4,⟨#[91]⟩)::((jm x++[(4,⟨#[93]⟩)])++T))):=h;rw[List.append_assoc] at h;rw[Ad h (by decide +kernel)]
  have h2:=agm (x:=x) (x0:={aM a with dst:=x.dst}) hp.len ⟨Z,Z⟩ h.hd.2.2.2
  show Gw s l (n+1) {aM a with dst:=x.dst}=_
  rw[h2.1,nJ a hk3 hp.op Z hp.ref hp.alt Z Z hp.num];simp only[List.length_cons,List.length_append,List.length_nil,aM];rw[show n+1+2+(jm x).length=n+((jm x).length+(0+1)+1+1) by omega]
 have hz:x.kind≠2->x.op=0:=λh=>Classical.byContradiction λhc=>h (hi.op.1 hc)
 have hm:x.kind≠1->x.num=0:=λh=>Classical.byContradiction λhc=>h (hi.num hc)
 by_cases e1:x.kind=1
 ·obtain⟨rfl,rfl,rfl,rfl⟩:(0:Int)=n'∧true=d∧false=r∧false=b:=by rw[e1] at hs;simpa [cB] using hs
  have tk:tkV x=[(2,⟨#[99,111,110,115,116]⟩),(3,bF x.num)]:=by unfold tkV;rw[e1];rfl
  rw[tk] at h ⊢;have h:AtT s l n ((2,⟨#[99,111,110,115,116]⟩)::(3,bF x.num)::T):=h;rw[Ad h (by decide +kernel)]
  have h2:=h.hd.2.2.2
  show oh s l (n+1) {aM a with dst:=x.dst}=_
  unfold oh;rw[if_pos h2.is,h2.hd.2.2.1,wF x.num hn,nJ a e1 (hz (by omega)) Z (cO hi.ref) (cO hi.alt) (LG (hi.jF.1 (by omega))) hi.frm rfl]
  rfl
 by_cases e2:x.kind=2
 ·obtain⟨rfl,rfl,rfl,rfl⟩:(2:Int)=n'∧true=d∧false=r∧false=b:=by rw[e2] at hs;simpa [cB] using hs
  have tk:tkV x=[(2,opName x.op),(1,x.args.getD 0 .empty),(1,x.args.getD 1 .empty)]:=by unfold tkV;rw[e2];rfl
  rw[tk] at h ⊢;have h:AtT s l n ((2,opName x.op)::(1,x.args.getD 0 .empty)::(1,x.args.getD 1 .empty)::T):=h;have ho:=Ik hr;have ho2:1≤x.op:=by have:=hi.op.2 e2;omega
  have hov:=aaf ho2 ho.2;have h2:=h.hd.2.2.2;unfold dG;rw[h.hd.2.2.1,if_pos (by omega),Iu h2]
  simp only[bnd];rw[Iu h2.hd.2.2.2,nJ a e2 Z Z (cO hi.ref) (cO hi.alt) (Po (hi.jF.1 (by omega))) hi.frm (hm (by omega)),hov]
  rfl
 by_cases e4:x.kind=4
 ·obtain⟨rfl,rfl,rfl,rfl⟩:(1:Int)=n'∧true=d∧true=r∧false=b:=by rw[e4] at hs;simpa [cB] using hs
  have tk:tkV x=[(2,⟨#[108,111,97,100]⟩),(1,x.ref),(1,x.args.getD 0 .empty)]:=by unfold tkV;rw[e4];rfl
  rw[tk] at h ⊢;have h:AtT s l n ((2,⟨#[108,111,97,100]⟩)::(1,x.ref)::(1,x.args.getD 0 .empty)::T):=h;rw[Ad h (by decide +kernel)]
  have h2:=h.hd.2.2.2
  show cellV 4 s l (n+1) {aM a with dst:=x.dst}=_
  unfold cellV;rw[Pp h2];simp only[bnd];rw[R5 h2.hd.2.2.2,nJ a e4 (hz (by omega)) Z Z (cO hi.alt) (sZ (hi.jF.1 (by omega))) hi.frm (hm (by omega))]
  rfl
 by_cases e5:x.kind=5
 ·obtain⟨rfl,rfl,rfl,rfl⟩:(1:Int)=n'∧true=d∧true=r∧false=b:=by rw[e5] at hs;simpa [cB] using hs
  have tk:tkV x=[(2,⟨#[119,114,97,112]⟩),(1,x.ref),(1,x.args.getD 0 .empty)]:=by unfold tkV;rw[e5];rfl
  rw[tk] at h ⊢;have h:AtT s l n ((2,⟨#[119,114,97,112]⟩)::(1,x.ref)::(1,x.args.getD 0 .empty)::T):=h;rw[Ad h (by decide +kernel)]
  have h2:=h.hd.2.2.2
  show cellV 5 s l (n+1) {aM a with dst:=x.dst}=_
  unfold cellV;rw[Pp h2];simp only[bnd];rw[R5 h2.hd.2.2.2,nJ a e5 (hz (by omega)) Z Z (cO hi.alt) (sZ (hi.jF.1 (by omega))) hi.frm (hm (by omega))]
  rfl
 by_cases e7:x.kind=7
 ·obtain⟨rfl,rfl,rfl,rfl⟩:(-1:Int)=n'∧true=d∧true=r∧false=b:=by rw[e7] at hs;simpa [cB] using hs
  have tk:tkV x=(2,⟨#[99,97,108,108]⟩)::(1,x.ref)::(4,⟨#[40]⟩)::(kR x.args++[(4,⟨#[41]⟩)]):=by unfold tkV;rw[e7];rfl
  rw[tk] at h ⊢;have h:AtT s l n ((2,⟨#[99,97,108,108]⟩)::(1,x.ref)::(4,⟨#[40]⟩)::((kR x.args++[(4,⟨#[41]⟩)])++T)):=h;rw[List.append_assoc] at h;rw[Ad h (by decide +kernel)]
  have h2:=h.hd.2.2.2
  show yU s l (n+1) {aM a with dst:=x.dst}=_
  unfold yU;rw[Pp h2];simp only[bnd];rw[(TJ hi.args hi.jF.2 h2.hd.2.2.2).1,nJ a e7 (hz (by omega)) Z Z (cO hi.alt) Z hi.frm (hm (by omega))]
  simp only[List.length_cons,List.length_append,List.length_nil,aM];rw[show n+1+1+2+(kR x.args).length=n+((kR x.args).length+(0+1)+1+1+1) by omega]
 by_cases e8:x.kind=8
 ·obtain⟨rfl,rfl,rfl,rfl⟩:(0:Int)=n'∧true=d∧true=r∧false=b:=by rw[e8] at hs;simpa [cB] using hs
  have tk:tkV x=[(2,⟨#[105,110,112,117,116]⟩),(1,x.ref)]:=by unfold tkV;rw[e8];rfl
  rw[tk] at h ⊢;have h:AtT s l n ((2,⟨#[105,110,112,117,116]⟩)::(1,x.ref)::T):=h;rw[Ad h (by decide +kernel)]
  have h2:=h.hd.2.2.2
  show uy s l (n+1) {aM a with dst:=x.dst}=_
  unfold uy;rw[Pp h2,nJ a e8 (hz (by omega)) Z Z (cO hi.alt) (LG (hi.jF.1 (by omega))) hi.frm (hm (by omega))]
  rfl
 have e10:=C8 hr e1 e2 h3 e4 e5 h6 e7 e8 h9 h11 h12 h13;obtain⟨rfl,rfl,rfl,rfl⟩:(1:Int)=n'∧true=d∧true=r∧false=b:=by rw[e10] at hs;simpa [cB] using hs
 have tk:tkV x=[(2,⟨#[114,101,108,101,97,115,101]⟩),(1,x.args.getD 0 .empty),(1,x.ref)]:=by unfold tkV;rw[e10];rfl
 rw[tk] at h ⊢;have h:AtT s l n ((2,⟨#[114,101,108,101,97,115,101]⟩)::(1,x.args.getD 0 .empty)::(1,x.ref)::T):=h;rw[Ad h (by decide +kernel)]
 have h2:=h.hd.2.2.2
 show kJ s l (n+1) {aM a with dst:=x.dst}=_
 unfold kJ;rw[R5 h2];simp only[bnd];rw[Pp h2.hd.2.2.2,nJ a e10 (hz (by omega)) Z Z (cO hi.alt) (sZ (hi.jF.1 (by omega))) hi.frm (hm (by omega))]
 rfl
theorem aag{w:BY}(h:okN w=true):oJ s l w.data.toList=none:=by
 have hw:nR w=false:=by
  unfold okN at h;simp only[agN,agZ] at h;exact h.2
 have key:∀v:BY,nR v=true->w.data.toList≠v.data.toList:=λv hv e=>by
  rw[gY.uF e,hv] at hw;cases hw
 unfold oJ;rw[if_neg (key ⟨#[115,116,111,114,101]⟩ (by decide +kernel)),if_neg (key ⟨#[111,117,116,112,117,116]⟩ (by decide +kernel)),if_neg (key ⟨#[106,117,109,112]⟩ (by decide +kernel)),if_neg (key ⟨#[98,114,97,110,99,104]⟩ (by decide +kernel)),if_neg (key ⟨#[114,101,116,117,114,110]⟩ (by decide +kernel))]
theorem Pq{w:BY}{c:Nat}(h:AtT s l n ((2,w)::T))(hc:c<4096){g:Nat->Ins->Except (Int×Int) (Nat×Ins)}(ha:oJ s l w.data.toList=some g):bI s l n c=g (n+1) (aM (atV s l n)):=by
 have h1:isV l n 1=false:=by rw[h.kind];decide
 unfold bI;rw[h.hd.2.2.1,ha,h1,if_neg (by simp),if_neg (by simp),if_neg (by omega)]
theorem abN{x:Ins}(hr:bC x=true)(hn:aj x.num){c:Nat}(hc:c<4096)(h:AtT s l n (tkI x++T)) :
  bI s l n c=.ok (n+(tkI x).length,{x with at_:=atV s l n}):=by
 have hin:∀{n':Int} {d r b:Bool},cB x.kind=some (n',d,r,b)->x.kind≠3->RIn x n' d r b:=λhs h3=>by
  rcases dx hr with⟨h1,_⟩ | ⟨n2,d',r',a',e,_,hi,_⟩
  ·exact absurd h1 h3
  ·rw[hs] at e
   obtain⟨rfl,rfl,rfl,rfl⟩:_=n2∧_=d'∧_=r'∧_=a':=by simpa using e
   exact hi
 by_cases e6:x.kind=6
 ·have hi:=hin (n':=2) (d:=false) (r:=true) (b:=false) (by rw[e6];rfl) (by omega)
  have tk:tkI x=[(2,⟨#[115,116,111,114,101]⟩),(1,x.ref),(1,x.args.getD 0 .empty),(1,x.args.getD 1 .empty)]:=by unfold tkI;rw[e6];rfl
  rw[tk] at h ⊢;have h:AtT s l n ((2,⟨#[115,116,111,114,101]⟩)::(1,x.ref)::(1,x.args.getD 0 .empty)::(1,x.args.getD 1 .empty)::T):=h;have h2:=h.hd.2.2.2;rw[Pq h hc (g:=sG s l) rfl];unfold sG;rw[Ab h2];simp only[bnd];rw[Iu h2.hd.2.2.2];simp only[bnd];rw[Iu h2.hd.2.2.2.hd.2.2.2];simp only[bnd];rw[nJ _ e6 (Classical.byContradiction λhc=>by have:=hi.op.1 hc;omega) (cO hi.dst) Z (cO hi.alt) (Po (hi.jF.1 (by omega))) hi.frm (Classical.byContradiction λhc=>by have:=hi.num hc;omega)]
  rfl
 by_cases e9:x.kind=9
 ·have hi:=hin (n':=1) (d:=false) (r:=true) (b:=false) (by rw[e9];rfl) (by omega)
  have tk:tkI x=[(2,⟨#[111,117,116,112,117,116]⟩),(1,x.ref),(1,x.args.getD 0 .empty)]:=by unfold tkI;rw[e9];rfl
  rw[tk] at h ⊢;have h:AtT s l n ((2,⟨#[111,117,116,112,117,116]⟩)::(1,x.ref)::(1,x.args.getD 0 .empty)::T):=h;have h2:=h.hd.2.2.2;rw[Pq h hc (g:=vg s l) rfl];unfold vg;rw[Ab h2];simp only[bnd];rw[Iu h2.hd.2.2.2];simp only[bnd];rw[nJ _ e9 (Classical.byContradiction λhc=>by have:=hi.op.1 hc;omega) (cO hi.dst) Z (cO hi.alt) (sZ (hi.jF.1 (by omega))) hi.frm (Classical.byContradiction λhc=>by have:=hi.num hc;omega)]
  rfl
 by_cases e11:x.kind=11
 ·have hi:=hin (n':=0) (d:=false) (r:=true) (b:=false) (by rw[e11];rfl) (by omega)
  have tk:tkI x=[(2,⟨#[106,117,109,112]⟩),(1,x.ref)]:=by unfold tkI;rw[e11];rfl
  rw[tk] at h ⊢;have h:AtT s l n ((2,⟨#[106,117,109,112]⟩)::(1,x.ref)::T):=h;have h2:=h.hd.2.2.2;rw[Pq h hc (g:=wI s l) rfl];unfold wI;rw[Ab h2];simp only[bnd];rw[nJ _ e11 (Classical.byContradiction λhc=>by have:=hi.op.1 hc;omega) (cO hi.dst) Z (cO hi.alt) (LG (hi.jF.1 (by omega))) hi.frm (Classical.byContradiction λhc=>by have:=hi.num hc;omega)]
  rfl
 by_cases e12:x.kind=12
 ·have hi:=hin (n':=1) (d:=false) (r:=true) (b:=true) (by rw[e12];rfl) (by omega)
  have tk:tkI x=[(2,⟨#[98,114,97,110,99,104]⟩),(1,x.args.getD 0 .empty),(1,x.ref),(1,x.alt)]:=by unfold tkI;rw[e12];rfl
  rw[tk] at h ⊢;have h:AtT s l n ((2,⟨#[98,114,97,110,99,104]⟩)::(1,x.args.getD 0 .empty)::(1,x.ref)::(1,x.alt)::T):=h;have h2:=h.hd.2.2.2;rw[Pq h hc (g:=sH s l) rfl];unfold sH;rw[Iu h2];simp only[bnd];rw[Ab h2.hd.2.2.2];simp only[bnd];rw[Ab h2.hd.2.2.2.hd.2.2.2];simp only[bnd];rw[nJ _ e12 (Classical.byContradiction λhc=>by have:=hi.op.1 hc;omega) (cO hi.dst) Z Z (sZ (hi.jF.1 (by omega))) hi.frm (Classical.byContradiction λhc=>by have:=hi.num hc;omega)]
  rfl
 by_cases e13:x.kind=13
 ·have hi:=hin (n':=1) (d:=false) (r:=false) (b:=false) (by rw[e13];rfl) (by omega)
  have tk:tkI x=[(2,⟨#[114,101,116,117,114,110]⟩),(1,x.args.getD 0 .empty)]:=by unfold tkI;rw[e13];rfl
  rw[tk] at h ⊢;have h:AtT s l n ((2,⟨#[114,101,116,117,114,110]⟩)::(1,x.args.getD 0 .empty)::T):=h;have h2:=h.hd.2.2.2;rw[Pq h hc (g:=yT s l) rfl];unfold yT;rw[Iu h2];simp only[bnd];rw[nJ _ e13 (Classical.byContradiction λhc=>by have:=hi.op.1 hc;omega) (cO hi.dst) (cO hi.ref) (cO hi.alt) (sZ (hi.jF.1 (by omega))) hi.frm (Classical.byContradiction λhc=>by have:=hi.num hc;omega)]
  rfl
 have hd:=LH hr e6 e9 e11 e12 e13;have tk:tkI x=(1,x.dst)::(4,⟨#[61]⟩)::tkV x:=by unfold tkI;rw[if_neg e6,if_neg e9,if_neg e11,if_neg e12,if_neg e13]
 rw[tk] at h ⊢;have h:AtT s l n ((1,x.dst)::(4,⟨#[61]⟩)::(tkV x++T)):=h;have h2:=h.hd.2.2.2;have h3:=h2.hd.2.2.2;unfold bI;rw[h.hd.2.2.1,aag hd,h.is,if_neg (by simp),if_neg (by rw[h2.hd.2.2.1];simp),if_neg (by omega)]
 dsimp only;rw[Ab h];simp only[bnd];rw[Dk h2 rfl];simp only;rw[abM hr hn e6 e9 e11 e12 e13 _ h3];simp only[List.length_cons];rw[show n+1+1+(tkV x).length=n+((tkV x).length+1+1) by omega]
end
theorem agG{o:Int}(h0:1≤o)(h1:o<13):Pc 2 (opName o):=by
 have h:∀n,n<13->1≤n->Pc 2 (opAt n):=by decide +kernel
 have e:opName o=opAt o.toNat:=by unfold opName;rw[if_neg (by omega)]
 rw[e];exact h _ (by omega) (by omega)
theorem gN(w:BY)(h:Pc 2 w):TxS [(2,w)] w:=E5 h
theorem aah{x:Ins}(hr:bC x=true)(hn:aj x.num)(h6:x.kind≠6)(h9:x.kind≠9)(h11:x.kind≠11)(h12:x.kind≠12)(h13:x.kind≠13):TxS (tkV x) (fZ x):=by
 rcases dx hr with⟨hk3,hp⟩ | ⟨n',d,r,b,hs,h3,hi,hop⟩
 ·have tk:tkV x=(2,⟨#[112,104,105]⟩)::(4,⟨#[91]⟩)::(jm x++[(4,⟨#[93]⟩)]):=by unfold tkV;rw[hk3];rfl
  have ev:fZ x=((⟨#[112,104,105,32,91]⟩:BY)++bq (sK x x.frm.length) d9)++(⟨#[93]⟩:BY):=by unfold fZ;rw[hk3];rfl
  rw[tk,ev,nH]
  have p1:TxH [(2,(⟨#[112,104,105]⟩:BY)),(4,⟨#[91]⟩)] ⟨#[112,104,105,32,91]⟩:=by
   have q1:TxH ([(2,(⟨#[112,104,105]⟩:BY))]++[]) (⟨#[112,104,105]⟩++⟨#[32]⟩):=(gN ⟨#[112,104,105]⟩ (by decide +kernel)).app xu Ry
   have q2:TxH [(4,(⟨#[91]⟩:BY))] ⟨#[91]⟩:=sg (by decide +kernel)
   have:=q1.app q2
   rwa [show ((⟨#[112,104,105]⟩++⟨#[32]⟩)++(⟨#[91]⟩:BY))=⟨#[112,104,105,32,91]⟩ by decide +kernel] at this
  have p2:=ZB (x:=x) (λi hi=>⟨qU hp.frm hi,qU hp.args (by rw[←hp.len.1];exact hi)⟩) hp.len.2.1 (sg (w:=⟨#[93]⟩) (by decide +kernel)) agl
  exact (p1.app p2).weak
 have on:okN x.dst=true:=LH hr h6 h9 h11 h12 h13;by_cases e1:x.kind=1
 ·have tk:tkV x=[(2,⟨#[99,111,110,115,116]⟩),(3,bF x.num)]:=by unfold tkV;rw[e1];rfl
  have ev:fZ x=bq [⟨#[99,111,110,115,116]⟩,bF x.num] spS:=by unfold fZ;rw[e1];rfl
  rw[tk,ev];exact sp2 (gN ⟨#[99,111,110,115,116]⟩ (by decide +kernel)) (E5 (ZA hn))
 have nm:∀i,i<x.args.length->TxS [(1,x.args.getD i .empty)] (x.args.getD i .empty):=λi h=>dK (qU hi.args h)
 have rf:r=true->TxS [(1,x.ref)] x.ref:=λh=>by subst h;exact dK (oN hi.ref)
 by_cases e2:x.kind=2
 ·have tk:tkV x=[(2,opName x.op),(1,x.args.getD 0 .empty),(1,x.args.getD 1 .empty)]:=by unfold tkV;rw[e2];rfl
  have ev:fZ x=bq [opName x.op,x.args.getD 0 .empty,x.args.getD 1 .empty] spS:=by unfold fZ;rw[e2];rfl
  have ho:=Ik hr;have hl:=gZ hr (n:=2) (by rw[e2];rfl) (by omega) (by omega)
  rw[tk,ev];exact sp3 (gN _ (agG (by have:=hi.op.2 e2;omega) ho.2)) (nm 0 (by omega)) (nm 1 (by omega))
 by_cases e4:x.kind=4
 ·have tk:tkV x=[(2,⟨#[108,111,97,100]⟩),(1,x.ref),(1,x.args.getD 0 .empty)]:=by unfold tkV;rw[e4];rfl
  have ev:fZ x=bq [⟨#[108,111,97,100]⟩,x.ref,x.args.getD 0 .empty] spS:=by unfold fZ;rw[e4];rfl
  have hl:=gZ hr (n:=1) (by rw[e4];rfl) (by omega) (by omega)
  rw[tk,ev];exact sp3 (gN ⟨#[108,111,97,100]⟩ (by decide +kernel)) (rf (by rw[e4] at hs;simp [cB] at hs;exact hs.2.2.1)) (nm 0 (by omega))
 by_cases e5:x.kind=5
 ·have tk:tkV x=[(2,⟨#[119,114,97,112]⟩),(1,x.ref),(1,x.args.getD 0 .empty)]:=by unfold tkV;rw[e5];rfl
  have ev:fZ x=bq [⟨#[119,114,97,112]⟩,x.ref,x.args.getD 0 .empty] spS:=by unfold fZ;rw[e5];rfl
  have hl:=gZ hr (n:=1) (by rw[e5];rfl) (by omega) (by omega)
  rw[tk,ev];exact sp3 (gN ⟨#[119,114,97,112]⟩ (by decide +kernel)) (rf (by rw[e5] at hs;simp [cB] at hs;exact hs.2.2.1)) (nm 0 (by omega))
 by_cases e7:x.kind=7
 ·have tk:tkV x=(2,⟨#[99,97,108,108]⟩)::(1,x.ref)::(4,⟨#[40]⟩)::(kR x.args++[(4,⟨#[41]⟩)]):=by unfold tkV;rw[e7];rfl
  have ev:fZ x=bq [⟨#[99,97,108,108]⟩,((x.ref++(⟨#[40]⟩:BY))++bq x.args d9)++(⟨#[41]⟩:BY)] spS:=by unfold fZ;rw[e7];rfl
  rw[tk,ev];have p1:TxH ([(1,x.ref)]++[(4,⟨#[40]⟩)]) (x.ref++⟨#[40]⟩):=(rf (by rw[e7] at hs;simp [cB] at hs;exact hs.2.2.1)).app (sg (by decide +kernel)) acr
  have p2:=OY hi.args (sg (w:=⟨#[41]⟩) (by decide +kernel)) agj
  have p3:=sp2 (gN ⟨#[99,97,108,108]⟩ (by decide +kernel)) (p1.app p2).weak
  rw[nH];exact p3
 by_cases e8:x.kind=8
 ·have tk:tkV x=[(2,⟨#[105,110,112,117,116]⟩),(1,x.ref)]:=by unfold tkV;rw[e8];rfl
  have ev:fZ x=bq [⟨#[105,110,112,117,116]⟩,x.ref] spS:=by unfold fZ;rw[e8];rfl
  rw[tk,ev];exact sp2 (gN ⟨#[105,110,112,117,116]⟩ (by decide +kernel)) (rf (by rw[e8] at hs;simp [cB] at hs;exact hs.2.2.1))
 have e10:=C8 hr e1 e2 h3 e4 e5 h6 e7 e8 h9 h11 h12 h13;have tk:tkV x=[(2,⟨#[114,101,108,101,97,115,101]⟩),(1,x.args.getD 0 .empty),(1,x.ref)]:=by unfold tkV;rw[e10];rfl
 have ev:fZ x=bq [⟨#[114,101,108,101,97,115,101]⟩,x.args.getD 0 .empty,x.ref] spS:=by unfold fZ;rw[e10];rfl
 have hl:=gZ hr (n:=1) (by rw[e10];rfl) (by omega) (by omega)
 rw[tk,ev];exact sp3 (gN ⟨#[114,101,108,101,97,115,101]⟩ (by decide +kernel)) (nm 0 (by omega)) (rf (by rw[e10] at hs;simp [cB] at hs;exact hs.2.2.1))
theorem abO{x:Ins}(hr:bC x=true)(hn:aj x.num):TxS (tkI x) (mP x):=by
 have hin:∀{n':Int} {d r b:Bool},cB x.kind=some (n',d,r,b)->x.kind≠3->RIn x n' d r b:=λhs h3=>by
  rcases dx hr with⟨h1,_⟩ | ⟨n2,d',r',a',e,_,hi,_⟩
  ·exact absurd h1 h3
  ·rw[hs] at e
   obtain⟨rfl,rfl,rfl,rfl⟩:_=n2∧_=d'∧_=r'∧_=a':=by simpa using e
   exact hi
 by_cases e6:x.kind=6
 ·have hi:=hin (n':=2) (d:=false) (r:=true) (b:=false) (by rw[e6];rfl) (by omega)
  have hl:=hi.jF.1 (by omega)
  have tk:tkI x=[(2,⟨#[115,116,111,114,101]⟩),(1,x.ref),(1,x.args.getD 0 .empty),(1,x.args.getD 1 .empty)]:=by unfold tkI;rw[e6];rfl
  have ev:mP x=bq [⟨#[115,116,111,114,101]⟩,x.ref,x.args.getD 0 .empty,x.args.getD 1 .empty] spS:=by unfold mP;rw[e6];rfl
  rw[tk,ev];exact sp4 (gN ⟨#[115,116,111,114,101]⟩ (by decide +kernel)) (dK (oN hi.ref)) (dK (qU hi.args (by omega))) (dK (qU hi.args (by omega)))
 by_cases e9:x.kind=9
 ·have hi:=hin (n':=1) (d:=false) (r:=true) (b:=false) (by rw[e9];rfl) (by omega)
  have hl:=hi.jF.1 (by omega)
  have tk:tkI x=[(2,⟨#[111,117,116,112,117,116]⟩),(1,x.ref),(1,x.args.getD 0 .empty)]:=by unfold tkI;rw[e9];rfl
  have ev:mP x=bq [⟨#[111,117,116,112,117,116]⟩,x.ref,x.args.getD 0 .empty] spS:=by unfold mP;rw[e9];rfl
  rw[tk,ev];exact sp3 (gN ⟨#[111,117,116,112,117,116]⟩ (by decide +kernel)) (dK (oN hi.ref)) (dK (qU hi.args (by omega)))
 by_cases e11:x.kind=11
 ·have hi:=hin (n':=0) (d:=false) (r:=true) (b:=false) (by rw[e11];rfl) (by omega)
  have tk:tkI x=[(2,⟨#[106,117,109,112]⟩),(1,x.ref)]:=by unfold tkI;rw[e11];rfl
  have ev:mP x=bq [⟨#[106,117,109,112]⟩,x.ref] spS:=by unfold mP;rw[e11];rfl
  rw[tk,ev];exact sp2 (gN ⟨#[106,117,109,112]⟩ (by decide +kernel)) (dK (oN hi.ref))
 by_cases e12:x.kind=12
 ·have hi:=hin (n':=1) (d:=false) (r:=true) (b:=true) (by rw[e12];rfl) (by omega)
  have hl:=hi.jF.1 (by omega)
  have tk:tkI x=[(2,⟨#[98,114,97,110,99,104]⟩),(1,x.args.getD 0 .empty),(1,x.ref),(1,x.alt)]:=by unfold tkI;rw[e12];rfl
  have ev:mP x=bq [⟨#[98,114,97,110,99,104]⟩,x.args.getD 0 .empty,x.ref,x.alt] spS:=by unfold mP;rw[e12];rfl
  rw[tk,ev];exact sp4 (gN ⟨#[98,114,97,110,99,104]⟩ (by decide +kernel)) (dK (qU hi.args (by omega))) (dK (oN hi.ref)) (dK (oN hi.alt))
 by_cases e13:x.kind=13
 ·have hi:=hin (n':=1) (d:=false) (r:=false) (b:=false) (by rw[e13];rfl) (by omega)
  have hl:=hi.jF.1 (by omega)
  have tk:tkI x=[(2,⟨#[114,101,116,117,114,110]⟩),(1,x.args.getD 0 .empty)]:=by unfold tkI;rw[e13];rfl
  have ev:mP x=bq [⟨#[114,101,116,117,114,110]⟩,x.args.getD 0 .empty] spS:=by unfold mP;rw[e13];rfl
  rw[tk,ev];exact sp2 (gN ⟨#[114,101,116,117,114,110]⟩ (by decide +kernel)) (dK (qU hi.args (by omega)))
 have hd:=LH hr e6 e9 e11 e12 e13;have tk:tkI x=(1,x.dst)::(4,⟨#[61]⟩)::tkV x:=by unfold tkI;rw[if_neg e6,if_neg e9,if_neg e11,if_neg e12,if_neg e13]
 have ev:mP x=bq [x.dst,⟨#[61]⟩,fZ x] spS:=by unfold mP;rw[if_neg e6,if_neg e9,if_neg e11,if_neg e12,if_neg e13]
 rw[tk,ev];exact sp3 (dK hd) (sg (w:=⟨#[61]⟩) (by decide +kernel)).weak (aah hr hn e6 e9 e11 e12 e13)
theorem Iw{ta tl:Tks}{acc l:BY}(h1:TxH ta acc)(h2:TxS tl l):TxH (ta++tl) (eG acc l):=by
 have:=h2.app ad2 ad3;rw[List.append_nil] at this;exact h1.app this
theorem aek:TxH [] ⟨#[32,32]⟩:=by
 have:=xu.app xu
 rwa [List.append_nil,show ((⟨#[32]⟩:BY)++(⟨#[32]⟩:BY))=⟨#[32,32]⟩ by decide +kernel] at this
theorem ael{x:Ins}(hr:bC x=true)(hn:aj x.num):TxS (tkI x) (nK x):=by
 have:=aek.OV (abO hr hn);exact this
theorem Uc:∀(l:List Ins) (ta:Tks) (acc:BY),(∀x,x∈l->bC x=true∧aj x.num)->TxH ta acc->TxH (ta++tkC l) (qc acc l)
 | [],ta,acc,_,h=>by
  show TxH (ta++[]) acc;rw[List.append_nil];exact h
 | x::r,ta,acc,hx,h=>by
  have h1:=Iw h (ael (hx x (by simp)).1 (hx x (by simp)).2)
  have ih:=Uc r _ _ (λy hy=>hx y (List.mem_cons_of_mem _ hy)) h1
  rw[List.append_assoc] at ih;exact ih
theorem aem{b:Blk}(h:okN b.name=true):TxS [(1,b.name),(4,⟨#[58]⟩)] (iB b):=
 ((dK h).app (sg (w:=⟨#[58]⟩) (by decide +kernel)) agk).weak
theorem Km:∀(l:List Blk) (ta:Tks) (acc:BY),(∀b,b∈l->ZF b∧∀x,x∈b.code->aj x.num)->TxH ta acc->TxH (ta++rP l) (nU acc l)
 | [],ta,acc,_,h=>by
  show TxH (ta++[]) acc;rw[List.append_nil];exact h
 | b::r,ta,acc,hb,h=>by
  obtain⟨hb1,hb2⟩:=hb b (by simp)
  have h1:=Iw h (aem hb1.name);have h2:=Uc b.code _ _ (λx hx=>⟨hb1.code x hx,hb2 x hx⟩) h1
  have ih:=Km r _ _ (λy hy=>hb y (List.mem_cons_of_mem _ hy)) h2
  rw[List.append_assoc,List.append_assoc] at ih;exact ih
theorem agH{f:Fun}(h:okN f.name=true)(hp:fV f.params=true):TxH ((2,(⟨#[102,110]⟩:BY))::(1,f.name)::(4,⟨#[40]⟩)::(kR f.params++[(4,⟨#[41]⟩),(4,⟨#[123]⟩)])) (jD f):=by
 have p0:TxH ([(2,(⟨#[102,110]⟩:BY))]++[]) (⟨#[102,110]⟩++⟨#[32]⟩):=(gN ⟨#[102,110]⟩ (by decide +kernel)).app xu Ry
 rw[List.append_nil,show ((⟨#[102,110]⟩:BY)++(⟨#[32]⟩:BY))=⟨#[102,110,32]⟩ by decide +kernel] at p0
 have p1:=(p0.OV (dK h)).app (sg (w:=⟨#[40]⟩) (by decide +kernel)) acr
 have q:TxH [(4,(⟨#[41]⟩:BY)),(4,⟨#[123]⟩)] ⟨#[41,32,123]⟩:=by
  have q1:=((sg (w:=⟨#[41]⟩) (by decide +kernel)).app xu).app (sg (w:=⟨#[123]⟩) (by decide +kernel))
  rwa [show (((⟨#[41]⟩:BY)++(⟨#[32]⟩:BY))++(⟨#[123]⟩:BY))=⟨#[41,32,123]⟩ by decide +kernel] at q1
 have p2:=p1.app (OY hp q (by unfold Beg;decide +kernel))
 unfold jD;rw[nH];exact p2
theorem Pt:∀(l:List Fun) (ta:Tks) (acc:BY),(∀f,f∈l->Rz f∧∀b,b∈f.blocks->∀x,x∈b.code->aj x.num)->TxH ta acc->TxH (ta++(l.map tkF).flatten) (vv acc l)
 | [],ta,acc,_,h=>by
  show TxH (ta++[]) acc;rw[List.append_nil];exact h
 | f::r,ta,acc,hf,h=>by
  obtain⟨hf1,hf2⟩:=hf f (by simp)
  have h1:=Iw h (agH hf1.name hf1.params).weak;have h2:=Km f.blocks _ _ (λb hb=>⟨hf1.blocks b hb,hf2 b hb⟩) h1
  have h3:=Iw h2 (sg (w:=⟨#[125]⟩) (by decide +kernel)).weak
  have ih:=Pt r _ _ (λy hy=>hf y (List.mem_cons_of_mem _ hy)) h3
  have e:ta++((f::r).map tkF).flatten=((ta++(2,(⟨#[102,110]⟩:BY))::(1,f.name)::(4,⟨#[40]⟩)::(kR f.params++[(4,⟨#[41]⟩),(4,⟨#[123]⟩)]))++rP f.blocks++[(4,⟨#[125]⟩)])++(r.map tkF).flatten:=by
   rw[List.map_cons,List.flatten_cons];unfold tkF;simp only[List.append_assoc,List.cons_append,List.nil_append]
  rw[e];exact ih
theorem aen{a:Arr}(h:je a=true):TxS (tkA a) (mg a):=by
 unfold je at h;simp only[agZ,ag2,agX,Bool.not_eq_false'] at h;obtain⟨⟨⟨h1,h2⟩,h3⟩,h4⟩:=h;exact sp4 (gN ⟨#[97,114,114,97,121]⟩ (by decide +kernel)) (dK h1) (E5 (ZA (n:=a.size) (by unfold aj;omega))) (dK h2)
theorem Ud:∀(l:List Arr) (ta:Tks) (acc:BY),(∀a,a∈l->je a=true)->TxH ta acc->TxH (ta++(l.map tkA).flatten) (mQ acc l)
 | [],ta,acc,_,h=>by
  show TxH (ta++[]) acc;rw[List.append_nil];exact h
 | a::r,ta,acc,ha,h=>by
  have h1:=Iw h (aen (ha a (by simp)))
  have ih:=Ud r _ _ (λy hy=>ha y (List.mem_cons_of_mem _ hy)) h1
  rw[List.append_assoc] at ih;exact ih
theorem abP{p:Prg}(hr:rightG p=true)(hn:∀f,f∈p.funcs->∀b,b∈f.blocks->∀x,x∈b.code->aj x.num):Txt (tkP p) (kg p):=by
 have hR:=yx hr;have h1:=Ud p.arrays [] .empty hR.arrays abA;have h2:=Pt p.funcs _ _ (λf hf=>⟨hR.funcs f hf,hn f hf⟩) h1
 exact h2.txt
theorem WZ{x:Ins}(hr:bC x=true):(∃w R,tkI x=(2,w)::R∧w.data.toList≠[125])∨∃R,tkI x=(1,x.dst)::(4,⟨#[61]⟩)::R∧okN x.dst=true:=by
 by_cases e6:x.kind=6
 ·exact .inl ⟨⟨#[115,116,111,114,101]⟩,_,by unfold tkI;rw[e6];rfl,by decide⟩
 by_cases e9:x.kind=9
 ·exact .inl ⟨⟨#[111,117,116,112,117,116]⟩,_,by unfold tkI;rw[e9];rfl,by decide⟩
 by_cases e11:x.kind=11
 ·exact .inl ⟨⟨#[106,117,109,112]⟩,_,by unfold tkI;rw[e11];rfl,by decide⟩
 by_cases e12:x.kind=12
 ·exact .inl ⟨⟨#[98,114,97,110,99,104]⟩,_,by unfold tkI;rw[e12];rfl,by decide⟩
 by_cases e13:x.kind=13
 ·exact .inl ⟨⟨#[114,101,116,117,114,110]⟩,_,by unfold tkI;rw[e13];rfl,by decide⟩
 exact .inr ⟨_,by unfold tkI;rw[if_neg e6,if_neg e9,if_neg e11,if_neg e12,if_neg e13],LH hr e6 e9 e11 e12 e13⟩
section
variable{s:BY}{l:List Tok}{n:Nat}{T:Tks}
theorem Iy{k:Int}{w:BY}(h:AtT s l n ((k,w)::T)):zD s l n=(decide (k=1)&&decide ((hdT T).data.toList=[58])):=by
 unfold zD;rw[h.kind,h.hd.2.2.2.text]
def Stops(s:BY)(l:List Tok)(T:Tks):Prop:=∀m,AtT s l m T->(txV s l m).data.toList=[125]∨zD s l m=true
theorem aai{x:Ins}(hr:bC x=true)(h:AtT s l n (tkI x++T)):¬((txV s l n).data.toList=[125]∨zD s l n=true):=by
 rcases WZ hr with⟨w,R,e,hw⟩ | ⟨R,e,hd⟩
 ·rw[e] at h
  have h:AtT s l n ((2,w)::(R++T)):=h;rw[h.hd.2.2.1,Iy h]
  rintro (h1 | h1)
  ·exact hw h1
  ·simp at h1
 ·rw[e] at h
  have h:AtT s l n ((1,x.dst)::(4,⟨#[61]⟩)::(R++T)):=h;rw[h.hd.2.2.1,Iy h]
  rintro (h1 | h1)
  ·exact OZ hd (b:=125) (by decide) h1
  ·have h1:(decide ((1:Int)=1)&&decide (([61]:List UInt8)=[58]))=true:=h1
   revert h1;decide
theorem aaj:∀(xs:List Ins) (f n c:Nat) (acc:List Ins),(∀x,x∈xs->bC x=true∧aj x.num)->xs.length<f->c+xs.length≤4096->Stops s l T->AtT s l n (tkC xs++T)->
  ∃ys,ys.map erI=xs.map erI∧codeF s l f n c acc=.ok (n+(tkC xs).length,(c+xs.length,acc++ys))
 | [],f,n,c,acc,_,hf,hc,hs,h=>by
  obtain⟨f,rfl⟩:∃g,f=g+1:=⟨f-1,by simp at hf;omega⟩
  refine⟨[],Z,?_⟩;rw[codeF,if_pos (hs n h),List.append_nil]
  rfl
 | x::r,f,n,c,acc,hx,hf,hc,hs,h=>by
  obtain⟨f,rfl⟩:∃g,f=g+1:=⟨f-1,by simp at hf;omega⟩
  simp only[List.length_cons] at hf hc;have e:tkC (x::r)=tkI x++tkC r:=rfl;rw[e,List.append_assoc] at h;obtain⟨h1,h2⟩:=hx x (by simp)
  obtain⟨ys,g1,g2⟩:=aaj r f (n+(tkI x).length) (c+1) (acc++[{x with at_:=atV s l n}]) (λy hy=>hx y (List.mem_cons_of_mem _ hy)) (by omega) (by omega) hs h.app
  refine⟨{x with at_:=atV s l n}::ys,?_,?_⟩
  ·rw[List.map_cons,List.map_cons,g1];rfl
  ·rw[codeF,if_neg (aai h1 h),abN h1 h2 (by omega) h]
   simp only[bnd];rw[g2,e,List.length_append,List.append_assoc,List.length_cons,show n+(tkI x).length+(tkC r).length=n+((tkI x).length+(tkC r).length) by omega,show c+1+r.length=c+(r.length+1) by omega]
   rfl
theorem Ue{b:Blk}(hb:ZF b)(hn:∀x,x∈b.code->aj x.num){c:Nat}(hc:c+b.code.length≤4096)(hs:Stops s l T)(h:AtT s l n (tkB b++T)) :
  ∃b',erB b'=erB b∧fU s l n c=.ok (n+(tkB b).length,(c+b.code.length,b')):=by
 have h:AtT s l n ((1,b.name)::(4,⟨#[58]⟩)::(tkC b.code++T)):=h;have h1:=h.hd.2.2.2;have h2:=h1.hd.2.2.2;obtain⟨ys,g1,g2⟩:=aaj b.code 4098 (n+1+1) c [] (λx hx=>⟨hb.code x hx,hn x hx⟩) (by have:=hb.few;omega) hc hs h2
 refine⟨⟨b.name,ys,atV s l n⟩,?_,?_⟩
 ·unfold erB;rw[g1]
 ·unfold fU
  rw[Ab h];simp only[bnd];rw[Dk h1 rfl];simp only;rw[g2];simp only[List.nil_append];rw[show n+1+1+(tkC b.code).length=n+(tkB b).length by unfold tkB;simp only[List.length_cons];omega]
theorem EA{bs:List Blk}{R:Tks}:Stops s l (rP bs++(4,⟨#[125]⟩)::R):=λm h=>by
 cases bs with
 | nil=>
  have h:AtT s l m ((4,⟨#[125]⟩)::R):=h;exact .inl (by rw[h.hd.2.2.1])
 | cons b r=>
  have h:AtT s l m ((1,b.name)::(4,⟨#[58]⟩)::(tkC b.code++rP r++(4,⟨#[125]⟩)::R)):=by
   have e:rP (b::r)=tkB b++rP r:=rfl;rw[e] at h;unfold tkB at h
   simpa only[List.cons_append,List.append_assoc] using h
  refine .inr ?_;rw[Iy h]
  rfl
theorem Pv{R:Tks}:∀(bs:List Blk) (f n c:Nat) (acc:List Blk),(∀b,b∈bs->ZF b∧∀x,x∈b.code->aj x.num)->bs.length<f->acc.length+bs.length≤64->c+cN bs≤4096->AtT s l n (rP bs++(4,⟨#[125]⟩)::R)->
  ∃ys,ys.map erB=bs.map erB∧fq s l f n c acc=.ok (n+(rP bs).length,(c+cN bs,acc++ys))
 | [],f,n,c,acc,_,hf,_,_,h=>by
  obtain⟨f,rfl⟩:∃g,f=g+1:=⟨f-1,by simp at hf;omega⟩
  have h:AtT s l n ((4,⟨#[125]⟩)::R):=h;refine⟨[],Z,?_⟩;rw[fq,if_neg (by rw[Iy h];simp),List.append_nil]
  rfl
 | b::r,f,n,c,acc,hb,hf,h64,hc,h=>by
  obtain⟨f,rfl⟩:∃g,f=g+1:=⟨f-1,by simp at hf;omega⟩
  simp only[List.length_cons] at hf h64;have ec:cN (b::r)=b.code.length+cN r:=rfl;rw[ec] at hc;have e:rP (b::r)=tkB b++rP r:=rfl
  have hbg:zD s l n=true:=by
   have h:AtT s l n ((1,b.name)::(4,⟨#[58]⟩)::(tkC b.code++rP r++(4,⟨#[125]⟩)::R)):=by
    rw[e] at h;unfold tkB at h
    simpa only[List.cons_append,List.append_assoc] using h
   rw[Iy h];rfl
  rw[e,List.append_assoc] at h;obtain⟨h1,h2⟩:=hb b (by simp)
  obtain⟨b',k1,k2⟩:=Ue h1 h2 (c:=c) (by omega) EA h
  obtain⟨ys,g1,g2⟩:=Pv r f (n+(tkB b).length) (c+b.code.length) (acc++[b']) (λy hy=>hb y (List.mem_cons_of_mem _ hy)) (by omega) (by simp;omega) (by omega) h.app
  refine⟨b'::ys,by rw[List.map_cons,List.map_cons,g1,k1],?_⟩
  rw[fq,if_pos hbg,if_neg (by omega),k2]
  simp only[bnd];rw[g2,e,ec,List.length_append,List.append_assoc,show n+(tkB b).length+(rP r).length=n+((tkB b).length+(rP r).length) by omega,show c+b.code.length+cN r=c+(b.code.length+cN r) by omega]
  rfl
theorem aeo{f:Fun}(hf:Rz f)(hn:∀b,b∈f.blocks->∀x,x∈b.code->aj x.num)(h1:1≤f.blocks.length){c:Nat}(hc:c+fN f≤4096)(h:AtT s l n (tkF f++T)) :
  ∃f',erF f'=erF f∧lQ s l n c=.ok (n+(tkF f).length,(c+fN f,f')):=by
 obtain⟨b,r,hbr⟩:∃b r,f.blocks=b::r:=by
  match hb:f.blocks,h1 with
  | b::r,_=>exact⟨b,r,rfl⟩
 have e:tkF f=(2,(⟨#[102,110]⟩:BY))::(1,f.name)::(4,⟨#[40]⟩)::(kR f.params++(4,⟨#[41]⟩)::(4,⟨#[123]⟩)::(tkB b++(rP r++[(4,⟨#[125]⟩)]))):=by
  unfold tkF;rw[hbr];have e:rP (b::r)=tkB b++rP r:=rfl;rw[e,List.append_assoc]
 have hlen:=congrArg List.length e;simp only[List.length_cons,List.length_append,List.length_nil] at hlen;rw[e] at h
 have h:AtT s l n ((2,(⟨#[102,110]⟩:BY))::(1,f.name)::(4,⟨#[40]⟩)::(kR f.params++(4,⟨#[41]⟩)::(4,⟨#[123]⟩)::(tkB b++(rP r++(4,⟨#[125]⟩)::T)))):=by
  simpa only[List.cons_append,List.append_assoc,List.nil_append] using h
 have k1:=h.hd.2.2.2;have k2:=k1.hd.2.2.2;obtain⟨p1,p2⟩:=TJ hf.params hf.Og k2;have k3:=p2.hd.2.2.2;have ec:fN f=b.code.length+cN r:=by unfold fN;rw[hbr];rfl
 have hb:=hf.blocks;have hn2:=hn;rw[hbr] at hb hn2;have hbl:=hf.V4;rw[hbr,List.length_cons] at hbl;obtain⟨b',q1,q2⟩:=Ue (hb b (by simp)) (hn2 b (by simp)) (c:=c) (by omega) EA k3
 obtain⟨ys,g1,g2⟩:=Pv r 65 _ (c+b.code.length) [b'] (λy hy=>⟨hb y (List.mem_cons_of_mem _ hy),hn2 y (List.mem_cons_of_mem _ hy)⟩) (by omega) (by simp;omega) (by omega) k3.app
 have k5:AtT s l _ ((4,⟨#[125]⟩)::T):=k3.app.app;refine⟨⟨f.name,f.params,b'::ys,atV s l n⟩,?_,?_⟩
 ·unfold erF
  rw[hbr,List.map_cons,List.map_cons,g1,q1]
 ·unfold lQ
  rw[Ab k1];simp only[bnd];rw[p1];simp only;rw[Dk p2 rfl];simp only;rw[q2];simp only;rw[g2];simp only;rw[Dk k5 rfl];simp only[List.singleton_append];rw[hlen,ec,show n+1+1+2+(kR f.params).length+1+(tkB b).length+(rP r).length+1=n+((kR f.params).length+((tkB b).length+((rP r).length+(0+1))+1+1)+1+1+1) by omega,show c+b.code.length+cN r=c+(b.code.length+cN r) by omega]
theorem agI{a:Arr}(ha:je a=true)(h:AtT s l n (tkA a++T)):vD s l n=.ok (n+4,{a with at_:=atV s l n}):=by
 unfold je at ha;simp only[agZ,ag2,agX,Bool.not_eq_false'] at ha;obtain⟨⟨⟨h1,h2⟩,h3⟩,h4⟩:=ha;have h:AtT s l n ((2,⟨#[97,114,114,97,121]⟩)::(1,a.name)::(3,bF a.size)::(1,a.level)::T):=h;have k1:=h.hd.2.2.2;have k2:=k1.hd.2.2.2;have k3:=k2.hd.2.2.2;unfold vD;rw[Ab k1];simp only[bnd];rw[if_pos k2.is,k2.hd.2.2.1,wF a.size (by unfold aj;omega),if_neg (by omega),Ab k3]
theorem Uf:∀(fs:List Fun) (f n c:Nat) (p:Prg),(∀g,g∈fs->Rz g∧1≤g.blocks.length∧∀b,b∈g.blocks->∀x,x∈b.code->aj x.num)->fs.length<f->p.funcs.length+fs.length≤64->c+(fs.map fN).sum≤4096->AtT s l n (fs.map tkF).flatten->
  ∃ys m,ys.map erF=fs.map erF∧lS s l f n c p=.ok (m,⟨p.arrays,p.funcs++ys⟩)
 | [],f,n,c,p,_,hf,_,_,h=>by
  obtain⟨f,rfl⟩:∃g,f=g+1:=⟨f-1,by simp at hf;omega⟩
  have hl:=h.len;refine⟨[],n,Z,?_⟩;rw[lS,if_neg (by simp at hl;omega),List.append_nil]
 | g::r,f,n,c,p,hg,hf,h64,hc,h=>by
  obtain⟨f,rfl⟩:∃k,f=k+1:=⟨f-1,by simp at hf;omega⟩
  simp only[List.length_cons,List.map_cons,List.sum_cons] at hf h64 hc;obtain⟨g1,g2,g3⟩:=hg g (by simp)
  rw[List.map_cons,List.flatten_cons] at h;obtain⟨g',k1,k2⟩:=aeo g1 g3 g2 (c:=c) (by omega) h
  obtain⟨ys,m,q1,q2⟩:=Uf r f (n+(tkF g).length) (c+fN g) ⟨p.arrays,p.funcs++[g']⟩ (λy hy=>hg y (List.mem_cons_of_mem _ hy)) (by omega) (by simp;omega) (by omega) h.app
  refine⟨g'::ys,m,by rw[List.map_cons,List.map_cons,q1,k1],?_⟩
  have h0:AtT s l n ((2,(⟨#[102,110]⟩:BY))::((1,g.name)::(4,⟨#[40]⟩)::(kR g.params++(4,⟨#[41]⟩)::(4,⟨#[123]⟩)::(rP g.blocks++[(4,⟨#[125]⟩)]))++(r.map tkF).flatten)):=h;rw[lS,if_pos h0.hd.1,h0.hd.2.2.1,if_neg (by decide),if_pos Z,if_neg (by omega),k2]
  simp only[bnd];rw[q2,List.append_assoc]
  rfl
theorem aak(fs:List Fun):∀(qs:List Arr) (f n:Nat) (p:Prg),p.funcs=[]->(∀a,a∈qs->je a=true)->(∀g,g∈fs->Rz g∧1≤g.blocks.length∧∀b,b∈g.blocks->∀x,x∈b.code->aj x.num)->qs.length+fs.length<f->p.arrays.length+qs.length≤16->fs.length≤64->(fs.map fN).sum≤4096->AtT s l n ((qs.map tkA).flatten++(fs.map tkF).flatten)->
  ∃xs ys m,xs.map erA=qs.map erA∧ys.map erF=fs.map erF∧lS s l f n 0 p=.ok (m,⟨p.arrays++xs,ys⟩)
 | [],f,n,p,hp,_,hg,hf,h16,h64,hc,h=>by
  obtain⟨ys,m,q1,q2⟩:=Uf fs f n 0 p hg (by simp at hf;omega) (by rw[hp];simp;omega) (by omega) h
  refine⟨[],ys,m,Z,q1,?_⟩;rw[q2,List.append_nil,hp,List.nil_append]
 | a::r,f,n,p,hp,ha,hg,hf,h16,h64,hc,h=>by
  obtain⟨f,rfl⟩:∃k,f=k+1:=⟨f-1,by simp at hf;omega⟩
  simp only[List.length_cons] at hf h16;rw[List.map_cons,List.flatten_cons,List.append_assoc] at h;have k:=agI (ha a (by simp)) h
  obtain⟨xs,ys,m,q1,q2,q3⟩:=aak fs r f (n+4) ⟨p.arrays++[{a with at_:=atV s l n}],p.funcs⟩ hp (λy hy=>ha y (List.mem_cons_of_mem _ hy)) hg (by omega) (by simp;omega) h64 hc h.app
  refine⟨{a with at_:=atV s l n}::xs,ys,m,by rw[List.map_cons,List.map_cons,q1];rfl,q2,?_⟩
  have h0:AtT s l n ((2,(⟨#[97,114,114,97,121]⟩:BY))::([(1,a.name),(3,bF a.size),(1,a.level)]++((r.map tkA).flatten++(fs.map tkF).flatten))):=h;rw[lS,if_pos h0.hd.1,h0.hd.2.2.1,if_pos Z,if_neg (by omega),k]
  simp only[bnd];rw[q3,List.append_assoc]
  rfl
end
theorem abQ(p:Prg):p.arrays.length+p.funcs.length≤(tkP p).length:=by
 have h1:∀qs:List Arr,qs.length≤((qs.map tkA).flatten).length:=λqs=>by
  induction qs with
  | nil=>exact Nat.zero_le _
  | cons a r ih=>rw[List.map_cons,List.flatten_cons,List.length_append,List.length_cons];show _≤4+_;omega
 have h2:∀fs:List Fun,fs.length≤((fs.map tkF).flatten).length:=λfs=>by
  induction fs with
  | nil=>exact Nat.zero_le _
  | cons a r ih=>
   rw[List.map_cons,List.flatten_cons,List.length_append,List.length_cons];have:1≤(tkF a).length:=by unfold tkF;simp
   omega
 unfold tkP;rw[List.length_append];have:=h1 p.arrays;have:=h2 p.funcs
 omega
theorem R6{p:Prg}(h:rightG p=true):∀f,f∈p.funcs->1≤f.blocks.length:=λf hf=>by
 unfold rightG at h;simp only[agN,List.all_eq_true] at h;have hk:=h.1.2 f hf;unfold kK at hk;simp only[agN,agZ,ag2,agX] at hk;omega
theorem R7{p:Prg}(hr:rightG p=true)(hn:∀f,f∈p.funcs->∀b,b∈f.blocks->∀x,x∈b.code->aj x.num)(hz:(kg p).size≤65536) :
  (bJ (kg p)).2.2=0∧(bJ (kg p)).1.arrays.map erA=p.arrays.map erA∧(bJ (kg p)).1.funcs.map erF=p.funcs.map erF:=by
 obtain⟨t1,t2⟩:=abz (abP hr hn) hz;have hR:=yx hr;have hat:AtT (kg p) (eH (kg p)).1 0 ((p.arrays.map tkA).flatten++(p.funcs.map tkF).flatten):=AtT.of t2
 have hlen:(eH (kg p)).1.length=(tkP p).length:=by rw[←t2,List.length_map]
 have hmany:=abQ p
 have hcode:(p.funcs.map fN).sum≤4096:=by
  unfold rightG at hr;simp only[agN,agT] at hr;exact hr.2
 obtain⟨xs,ys,m,q1,q2,q3⟩:=aak p.funcs p.arrays ((eH (kg p)).1.length+1) 0 ⟨[],[]⟩ Z hR.arrays (λg hg=>⟨hR.funcs g hg,R6 hr g hg,hn g hg⟩) (by omega) (by have:=hR.jF;simp;omega) hR.A9 hcode hat
 unfold bJ;rw[if_pos t1,q3];exact⟨Z,q1,q2⟩
end Go.Proofs.YtojhdmfkfkfcbaaGreatDoor
