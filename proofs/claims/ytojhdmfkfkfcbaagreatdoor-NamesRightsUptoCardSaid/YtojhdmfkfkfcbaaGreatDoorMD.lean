import Derived.Test.YtojhdmfkfkfcbaaGreatDoorMC
import Derived.Test.YtojhdmfkfkfcbaaGreatDoorMB
import Derived.Test.YtojhdmfkfkfcbaaGreatDoorSxG
import Derived.Test.YtojhdmfkfkfcbaaGreatDoorMA
import Derived.Test.YtojhdmfkfkfcbaaGreatDoorSxH
import Derived.RangeFuncNested
import Derived.OwnWalkIn
import Derived.TacticsInMore
import Derived.LoopNIn
import Derived.LoopIn
import Derived.Shelf.Strings.FieldsFuncGrows
set_option maxHeartbeats 1000000000
set_option linter.unusedSimpArgs false
set_option linter.unusedVariables false
namespace Go.Proofs.YtojhdmfkfkfcbaaGreatDoor
open Go.Sx
set_option maxRecDepth 100000
theorem BO(xs:List BY)(sep:BY):(FI xs sep).data.toList=Lib.join (xs.map (·.data.toList)) sep.data.toList:=by
 simp [FI]
theorem oN(a sep:BY):FI [a] sep=a:=w9 (by rw[BO,List.map_cons,List.map_nil,Lib.join_one])
where w9 {a b:BY} (h:a.data.toList=b.data.toList):a=b:=by rw[ba_eq a,ba_eq b,h]
theorem yS(a b:BY)(l:List BY)(sep:BY):FI (a::b::l) sep=a++(sep++FI (b::l) sep):=by
 refine oN.w9 ?_
 rw[BO,jG,jG,BO]
 simp only[List.map_cons,Lib.join_cons,Lib.joinTail,List.flatten_cons,List.append_assoc]
theorem Gf(s:BY):∀(n p:Nat) (c:Int),s.size≤p+n->0≤c->c≤24->jq s n p c=true->s.size≤p+4*(24-c.toNat)
 | 0,p,c,h,_,_,_=>by omega
 | n+1,p,c,h,h0,h1,hw=>by
  rw[jq] at hw
  split at hw
  ·split at hw
   ·cases hw
   ·split at hw
    ·cases hw
    ·have hd:=bF s p
     have:=Gf s n (p+(Utf8.decode s p).2) (c+1) (by omega) (by omega) (by omega) hw
     omega
  ·omega
theorem UH{s:BY}(h:FX s=true):s.size≤96:=by
 have:=Gf s s.size 0 0 (by omega) (by omega) (by omega) h
 omega
def okN(s:BY):Bool:=FX s&&!mJ s
theorem l8{s:BY}(h:okN s=true):s.size≤96:=by
 unfold okN at h
 simp only[afF] at h
 exact UH h.1
def gU(l:List BY):Bool:=l.all okN
theorem BP{l:List BY}(h:gU l=true):∀a,a∈l->a.size≤96:=λa ha=>l8 (List.all_eq_true.1 h a ha)
def jL(k:Int):Option (Int×Bool×Bool×Bool):=
 if k=1 then some (0,true,false,false) else if k=2 then some (2,true,false,false) else if k=4 then some (1,true,true,false)
 else if k=5 then some (1,true,true,false) else if k=6 then some (2,false,true,false) else if k=7 then some (-1,true,true,false)
 else if k=8 then some (0,true,true,false) else if k=9 then some (1,false,true,false) else if k=10 then some (1,true,true,false)
 else if k=11 then some (0,false,true,false) else if k=12 then some (1,false,true,true) else if k=13 then some (1,false,false,false) else none
def dZ(s:BY)(wanted:Bool):Bool:=wanted&&okN s||!wanted&&decide (s.data.toList=[])
def opName(o:Int):BY:=if 13≤o then .empty else opAt o.toNat
def cZ(x:Ins):Bool:=
 if (decide (x.op≠0) != decide (x.kind=2))||(decide (x.op≠0)&&decide ((opName x.op).data.toList=[]))||(decide (x.num≠0)&&decide (x.kind≠1))||!gU x.args||!gU x.frm then false
 else if x.kind=3 then okN x.dst&&decide (x.ref.data.toList=[])&&decide (x.alt.data.toList=[])&&decide (x.frm.length=x.args.length)&&decide (1≤x.frm.length)&&decide (x.frm.length≤64)
 else match jL x.kind with
  | none=>false
  | some (n,d,r,a)=>!(decide (0<x.frm.length)||(decide (0≤n)&&decide ((x.args.length:Int)≠n))||decide (6<x.args.length))&&(dZ x.dst d&&dZ x.ref r&&dZ x.alt a)
abbrev spS:BY:=⟨#[32]⟩
theorem ae3(a b c d s:BY):FI [a,b,c,d] s=a++(s++(b++(s++(c++(s++d))))):=by rw[yS,yS,yS,oN]
theorem xg{n:Int}(h:aj n):(gM n).size≤20:=by
 unfold aj at h
 have hd:=pI 19 n.natAbs (by omega)
 unfold gM sgV
 show (ba _).size≤20
 have hs:∀l:List UInt8,(ba l).size=l.length:=λl=>by show l.toArray.size=l.length;simp
 rw[hs,List.length_append]
 by_cases h0:n<0
 ·rw[if_pos h0]
  have hd2:=pI 18 n.natAbs (by omega)
  simp only[List.length_cons,List.length_nil];omega
 ·rw[if_neg h0];simp only[List.length_nil];omega
structure acC(x:Ins):Prop where
 dst:x.dst.size≤96
 ref:x.ref.size≤96
 alt:x.alt.size≤96
 args:∀a,a∈x.args->a.size≤96
 frm:∀a,a∈x.frm->a.size≤96
 yT:x.args.length≤64
 Ku:x.frm.length≤64
theorem Gg{s:BY}(h:s.data.toList=[]):s.size=0:=by rw[ji,h];rfl
theorem BQ{s:BY}{b:Bool}(h:dZ s b=true):s.size≤96:=by
 unfold dZ at h
 cases b with
 | true=>simp at h;exact l8 h
 | false=>simp at h;rw[Gg (by simpa using h)];omega
theorem MW{x:Ins}(h:cZ x=true):acC x:=by
 unfold cZ at h
 split at h
 ·cases h
 rename_i h0
 simp only[Bool.or_eq_true,not_or,Bool.not_eq_true,Bool.not_eq_false'] at h0
 obtain⟨⟨⟨_,_⟩,ha⟩,hf⟩:=h0
 have ha:=BP ha
 have hf:=BP hf
 split at h
 ·simp only[afF,afL] at h
  obtain⟨⟨⟨⟨⟨h1,h2⟩,h3⟩,h4⟩,h5⟩,h6⟩:=h
  exact⟨l8 h1,by rw[Gg h2];omega,by rw[Gg h3];omega,ha,hf,by omega,h6⟩
 ·split at h
  ·cases h
  ·rename_i n d r a hs
   simp only[afF,afR,afU,afP] at h
   obtain⟨⟨⟨h1,h2⟩,h3⟩,⟨h4,h5⟩,h6⟩:=h
   exact⟨BQ h4,BQ h5,BQ h6,ha,hf,by omega,by omega⟩
def lG(a:Arr):Bool:=!(!okN a.name||!okN a.level||decide (a.size<1)||decide (256<a.size))
def pU(b:Blk):Bool:=okN b.name&&b.code.all cZ
def lH(f:Fun):Bool:=!(!okN f.name||!gU f.params||decide (6<f.params.length)||decide (f.blocks.length<1)||decide (64<f.blocks.length))&&f.blocks.all pU
def ko(fs:List Fun):Nat:=(fs.map λf=>(f.blocks.map λb=>b.code.length).sum).sum
def rightG(p:Prg):Bool:=!(decide (16<p.arrays.length)||decide (64<p.funcs.length))&&p.arrays.all lG&&p.funcs.all lH&&decide (ko p.funcs≤4096)
def RY(a:Arr):BY:=FI [⟨#[97,114,114,97,121]⟩,a.name,gM a.size,a.level] spS
def Me(acc l:BY):BY:=acc++(l++(⟨#[10]⟩:BY))
def dSs(l:List BY):D:=.sl 1 l.length λi=>[.str (l.getD i .empty)]
abbrev Chan:=BY×Int
def aL:Chan:=(.empty,0)
def ae4(l:List Chan):D:=.sl 2 l.length λi=>[.str (l.getD i aL).1,.int .i64 (l.getD i aL).2]
abbrev vSs(l:List BY):V:=.d (dSs l)
abbrev iT(l:List Chan):V:=.d (ae4 l)
def l9(p:Nat->Bool):Nat->Nat->Int
 | 0,_=>-1
 | n+1,i=>if p i then (i:Int) else l9 p n (i+1)
theorem yU{p:Nat->Bool}:∀{n i:Nat},l9 p n i=-1∨((i:Int)≤l9 p n i∧l9 p n i<(i:Int)+n)
 | 0,_=>.inl rfl
 | n+1,i=>by
  rw[l9]
  split
  ·right;omega
  ·rcases yU (p:=p) (n:=n) (i:=i+1) with h | h
   ·exact .inl h
   ·right;omega
def bE(l:List BY)(s:BY):Int:=l9 (λi=>decide ((l.getD i .empty).data.toList=s.data.toList)) l.length 0
def eY(l:List Chan)(s:BY):Int:=l9 (λi=>decide ((l.getD i aL).1.data.toList=s.data.toList)) l.length 0
theorem MX(s:BY):Pure PG 101 [vs s] (vs s) []:=by
 refine aD.mk (cfg 4) av [] Tryz.func101 Z (by kernel_rfl) Z Z Z ?_
 intro C x
 exact x.exit Z tR ⟨.inr Z,Z,tR,Z⟩
theorem MZ(s:BY)(k:Int):Pure PG 121 [.agg [vs s,vi k]] (vs s) []:=by
 refine aD.mk (cfg 5) av [] Tryz.func121 Z (by kernel_rfl) Z Z Z ?_
 intro C x
 exact x.exit Z tR ⟨.inr Z,Z,tR,Z⟩
abbrev Dx(f:Nat)(s:BY):List Ch:=[.box [.fn f []],.box [vs s]]
theorem X0(t s:BY):aD PG 156 2 [vs t,.ptr 0 0,.ptr 1 0] (Dx 101 s) (vb (decide (t.data.toList=s.data.toList))) (Dx 101 s):=by
 refine aD.mk (dM 10 2) av [0,1] Tryz.func156 Z (by kernel_rfl) Z Z Z ?_
 intro C x
 refine x.quiet Z tR ay (by kernel_rfl) ?_
 refine x.lS Z tR Z (MX t) Z Z ⟨Z,tR⟩ ?_
 refine x.bS Z tR ?_
 exact x.exit Z tR ⟨.inr Z,Z,⟨⟨Z,tR⟩,⟨Z,tR⟩,tR⟩,Z⟩
theorem X3(c:Chan)(s:BY):aD PG 166 2 [.agg [vs c.1,vi c.2],.ptr 0 0,.ptr 1 0] (Dx 121 s) (vb (decide (c.1.data.toList=s.data.toList))) (Dx 121 s):=by
 refine aD.mk (dM 10 2) av [0,1] Tryz.func166 Z (by kernel_rfl) Z Z Z ?_
 intro C x
 refine x.quiet Z tR ay (by kernel_rfl) ?_
 refine x.lS Z tR Z (MZ c.1 c.2) Z Z ⟨⟨Z,Z,tR⟩,tR⟩ ?_
 refine x.bS Z tR ?_
 exact x.exit Z tR ⟨.inr Z,Z,⟨⟨Z,tR⟩,⟨Z,tR⟩,tR⟩,Z⟩
theorem M0(l:List BY)(s:BY)(hl:aj (l.length:Int)):aD PG 155 2 [vSs l,.fn 156 [.ptr 0 0,.ptr 1 0]] (Dx 101 s) (vi (bE l s)) (Dx 101 s):=by
 refine aD.mk (dM 19 2) av [0,1] Tryz.func155 Z (by kernel_rfl) Z Z Z ?_
 intro C x
 unfold aj at hl
 refine x.loop (α:={i:Nat // i≤l.length∧l9 (λi=>decide ((l.getD i .empty).data.toList=s.data.toList)) (l.length-i) i=bE l s}) (λy=>⟨[(0,vSs l),(1,.fn 156 [.ptr 0 0,.ptr 1 0]),(7,vi (l.length:Int)),(8,vi (y.1:Int))],[(0,.box [.fn 101 []]),(1,.box [vs s])],2⟩) (λy=>l.length-y.1) ⟨0,by omega,Z⟩ Z tR ?_ (λy=>?_)
 ·exact⟨⟨au Z,Z,Z,Z,tR⟩,⟨⟨Z,tR⟩,⟨Z,tR⟩,tR⟩,Z⟩
 obtain⟨i,hi,hsame⟩:=y
 change Go C _ ⟨[(0,vSs l),(1,.fn 156 [.ptr 0 0,.ptr 1 0]),(7,vi (l.length:Int)),(8,vi (i:Int))],[(0,.box [.fn 101 []]),(1,.box [vs s])],2⟩ _
 refine x.cond Z tR (λh1=>?_) (λh1=>?_)
 ·have h1:i<l.length:=by have:=afH h1;omega
  rw[show l.length-i=(l.length-(i+1))+1 by omega,l9] at hsame
  refine x.call [0,1] Z ?_ Z (X0 (l.getD i .empty) s) Z ⟨Z,⟨Z,Z⟩,⟨Z,Z⟩,tR⟩ ⟨⟨Z,tR⟩,⟨Z,tR⟩,tR⟩ ?_
  ·simp only[ak];omega
  refine x.cond Z tR (λh2=>?_) (λh2=>?_)
  ·rw[if_pos h2] at hsame
   refine x.exit Z tR ⟨.inr Z,?_,⟨⟨Z,tR⟩,⟨Z,tR⟩,tR⟩,Z⟩
   show aB (vi (i:Int)) (vi (bE l s))
   rw[hsame];exact Z
  ·rw[if_neg (by rw[h2];simp)] at hsame
   refine x.back Z ?_ ⟨⟨i+1,by omega,hsame⟩,by show l.length-(i+1)<l.length-i;omega,⟨au Z,Z,Z,(show aB (vi ((i:Int)+1)) (vi ((i+1:Nat):Int)) by rw[afQ];rfl),tR⟩,⟨⟨Z,tR⟩,⟨Z,tR⟩,tR⟩,Z⟩
   simp only[ak,aj];omega
 ·have h1:i=l.length:=by have:=afI h1;omega
  refine x.exit Z tR ⟨.inr Z,?_,⟨⟨Z,tR⟩,⟨Z,tR⟩,tR⟩,Z⟩
  show aB (vi (-1)) (vi (bE l s))
  rw[←hsame,show l.length-i=0 by omega];exact Z
theorem M4(l:List Chan)(s:BY)(hl:aj (l.length:Int)):aD PG 165 2 [iT l,.fn 166 [.ptr 0 0,.ptr 1 0]] (Dx 121 s) (vi (eY l s)) (Dx 121 s):=by
 refine aD.mk (dM 19 2) av [0,1] Tryz.func165 Z (by kernel_rfl) Z Z Z ?_
 intro C x
 unfold aj at hl
 refine x.loop (α:={i:Nat // i≤l.length∧l9 (λi=>decide ((l.getD i aL).1.data.toList=s.data.toList)) (l.length-i) i=eY l s}) (λy=>⟨[(0,iT l),(1,.fn 166 [.ptr 0 0,.ptr 1 0]),(7,vi (l.length:Int)),(8,vi (y.1:Int))],[(0,.box [.fn 121 []]),(1,.box [vs s])],2⟩) (λy=>l.length-y.1) ⟨0,by omega,Z⟩ Z tR ?_ (λy=>?_)
 ·exact⟨⟨au Z,Z,Z,Z,tR⟩,⟨⟨Z,tR⟩,⟨Z,tR⟩,tR⟩,Z⟩
 obtain⟨i,hi,hsame⟩:=y
 change Go C _ ⟨[(0,iT l),(1,.fn 166 [.ptr 0 0,.ptr 1 0]),(7,vi (l.length:Int)),(8,vi (i:Int))],[(0,.box [.fn 121 []]),(1,.box [vs s])],2⟩ _
 refine x.cond Z tR (λh1=>?_) (λh1=>?_)
 ·have h1:i<l.length:=by have:=afH h1;omega
  rw[show l.length-i=(l.length-(i+1))+1 by omega,l9] at hsame
  refine x.call [0,1] Z ?_ Z (X3 (l.getD i aL) s) Z ⟨⟨Z,Z,tR⟩,⟨Z,Z⟩,⟨Z,Z⟩,tR⟩ ⟨⟨Z,tR⟩,⟨Z,tR⟩,tR⟩ ?_
  ·simp only[ak];omega
  refine x.cond Z tR (λh2=>?_) (λh2=>?_)
  ·rw[if_pos h2] at hsame
   refine x.exit Z tR ⟨.inr Z,?_,⟨⟨Z,tR⟩,⟨Z,tR⟩,tR⟩,Z⟩
   show aB (vi (i:Int)) (vi (eY l s))
   rw[hsame];exact Z
  ·rw[if_neg (by rw[h2];simp)] at hsame
   refine x.back Z ?_ ⟨⟨i+1,by omega,hsame⟩,by show l.length-(i+1)<l.length-i;omega,⟨au Z,Z,Z,(show aB (vi ((i:Int)+1)) (vi ((i+1:Nat):Int)) by rw[afQ];rfl),tR⟩,⟨⟨Z,tR⟩,⟨Z,tR⟩,tR⟩,Z⟩
   simp only[ak,aj];omega
 ·have h1:i=l.length:=by have:=afI h1;omega
  refine x.exit Z tR ⟨.inr Z,?_,⟨⟨Z,tR⟩,⟨Z,tR⟩,tR⟩,Z⟩
  show aB (vi (-1)) (vi (eY l s))
  rw[←hsame,show l.length-i=0 by omega];exact Z
def Gh(k:Int):V:=.tup [vi (if 0 > k then 0 else k),vb (decide (0≤k))]
theorem P6(l:List BY)(s:BY)(hl:aj (l.length:Int)):Pure PG 100 [vSs l,.fn 101 [],vs s] (Gh (bE l s)) []:=by
 refine aD.mk (cfg 16) av [] Tryz.func100 Z (by kernel_rfl) Z Z Z ?_
 intro C x
 refine x.call [0,1] Z tR Z (M0 l s hl) Z ⟨au Z,Z,tR⟩ ⟨⟨Z,tR⟩,⟨Z,tR⟩,tR⟩ ?_
 exact x.exit Z tR ⟨.inr Z,⟨Z,Z,tR⟩,tR,Z⟩
theorem pV(l:List Chan)(s:BY)(hl:aj (l.length:Int)):Pure PG 120 [iT l,.fn 121 [],vs s] (Gh (eY l s)) []:=by
 refine aD.mk (cfg 16) av [] Tryz.func120 Z (by kernel_rfl) Z Z Z ?_
 intro C x
 refine x.call [0,1] Z tR Z (M4 l s hl) Z ⟨au Z,Z,tR⟩ ⟨⟨Z,tR⟩,⟨Z,tR⟩,tR⟩ ?_
 exact x.exit Z tR ⟨.inr Z,⟨Z,Z,tR⟩,tR,Z⟩
theorem jM(l:List BY)(s:BY)(hl:aj (l.length:Int)):Pure PG 52 [.agg [vSs l,.dead,.dead,.dead,.dead],vs s] (Gh (bE l s)) []:=by
 refine aD.mk (cfg 12) av [] Tryz.func52 Z (by kernel_rfl) Z Z Z ?_
 intro C x
 refine x.pure Z tR Z (P6 l s hl) ⟨au Z,Z,Z,tR⟩ ?_
 exact x.exit Z tR ⟨.inr Z,⟨Z,Z,tR⟩,tR,Z⟩
theorem P7(l:List Chan)(s:BY)(hl:aj (l.length:Int)):Pure PG 184 [.agg [.dead,.dead,iT l,.dead,.dead],vs s] (Gh (eY l s)) []:=by
 refine aD.mk (cfg 12) av [] Tryz.func184 Z (by kernel_rfl) Z Z Z ?_
 intro C x
 refine x.pure Z tR Z (pV l s hl) ⟨au Z,Z,Z,tR⟩ ?_
 exact x.exit Z tR ⟨.inr Z,⟨Z,Z,tR⟩,tR,Z⟩
theorem M5(l:List Chan)(s:BY)(hl:aj (l.length:Int)):Pure PG 185 [.agg [.dead,.dead,.dead,iT l,.dead],vs s] (Gh (eY l s)) []:=by
 refine aD.mk (cfg 12) av [] Tryz.func185 Z (by kernel_rfl) Z Z Z ?_
 intro C x
 refine x.pure Z tR Z (pV l s hl) ⟨au Z,Z,Z,tR⟩ ?_
 exact x.exit Z tR ⟨.inr Z,⟨Z,Z,tR⟩,tR,Z⟩
def gF(s:BY):Bool:=jq s s.size 0 0&&!mJ s
theorem yV(s:BY)(hs:s.size≤9223372036854775807):Pure PG 71 [vs s] (vb (gF s)) []:=by
 refine aD.mk (cfg 10) av [] Tryz.func71 Z (by kernel_rfl) Z Z Z ?_
 intro C x
 refine x.pure Z tR Z (Bz s hs) ⟨Z,tR⟩ ?_
 refine x.bK Z tR Z (λ_=>BA s) Z ⟨Z,tR⟩ ?_
 exact x.exit Z tR ⟨.inr Z,Z,tR,Z⟩
abbrev M64:=BitVec 64
abbrev dm(x:M64):D:=.int .u64 (x.toNat:Int)
abbrev vm(x:M64):V:=.d (dm x)
theorem wrap_u64(n:Int):IntKind.u64.wrap n=n%18446744073709551616:=rfl
theorem Ad{n:Nat}(h:n<18446744073709551616):IntKind.u64.wrap (n:Int)=n:=by
 rw[wrap_u64];omega
theorem toNat_lt(x:M64):x.toNat<18446744073709551616:=x.isLt
theorem Kv(x:M64):BitVec.ofInt IntKind.u64.bits (x.toNat:Int)=x:=by
 show BitVec.ofInt 64 (x.toNat:Int)=x
 apply BitVec.eq_of_toNat_eq
 rw[BitVec.toNat_ofInt]
 have:=toNat_lt x
 show ((x.toNat:Int)%((2 ^ 64:Nat):Int)).toNat=x.toNat
 omega
theorem RZ(x y:M64):bT .and .u64 (x.toNat:Int) (y.toNat:Int)=((x&&& y).toNat:Int):=by
 unfold bT
 simp only[Kv]
 exact Ad (toNat_lt _)
theorem aah(x y:M64):bT .or .u64 (x.toNat:Int) (y.toNat:Int)=((x||| y).toNat:Int):=by
 unfold bT
 simp only[Kv]
 exact Ad (toNat_lt _)
theorem X4(x y:M64):bT .andNot .u64 (x.toNat:Int) (y.toNat:Int)=((x&&& ~~~y).toNat:Int):=by
 unfold bT
 simp only[Kv]
 exact Ad (toNat_lt _)
theorem acD(x:M64):IntKind.u64.wrap ((x.toNat:Int)-1)=((x-1#64).toNat:Int):=by
 rw[wrap_u64,BitVec.toNat_sub]
 have:=toNat_lt x
 show ((x.toNat:Int)-1)%18446744073709551616=(((2 ^ 64-1+x.toNat)%2 ^ 64:Nat):Int)
 omega
theorem ae5(x:M64):IntKind.u64.wrap (0-(x.toNat:Int))=((-x).toNat:Int):=by
 rw[wrap_u64,BitVec.toNat_neg]
 have:=toNat_lt x
 show (0-(x.toNat:Int))%18446744073709551616=(((2 ^ 64-x.toNat)%2 ^ 64:Nat):Int)
 omega
theorem ae6(x y:M64):IntKind.u64.wrap ((x.toNat:Int)*(y.toNat:Int))=((x*y).toNat:Int):=by
 rw[wrap_u64,BitVec.toNat_mul]
 show ((x.toNat:Int)*(y.toNat:Int))%18446744073709551616=(((x.toNat*y.toNat)%2 ^ 64:Nat):Int)
 rw[Int.natCast_emod,Int.natCast_mul]
 rfl
theorem abh{i:Nat}(hi:i<64):IntKind.u64.wrap (1*2 ^ (min ((i:Int)).toNat IntKind.u64.bits))=((1#64 <<< i).toNat:Int):=by
 rw[wrap_u64,BitVec.toNat_shiftLeft]
 have e:min ((i:Int)).toNat IntKind.u64.bits=i:=by
  show min i 64=i
  omega
 rw[e,Int.one_mul]
 show (2:Int) ^ i%18446744073709551616=(((1 <<< i)%2 ^ 64:Nat):Int)
 rw[Nat.shiftLeft_eq,Nat.one_mul,Int.natCast_emod,Int.natCast_pow]
 rfl
theorem abj(x:M64){i:Nat}(hi:i<64):((x.toNat:Int)).fdiv (2 ^ (min ((i:Int)).toNat IntKind.u64.bits))=((x >>> i).toNat:Int):=by
 rw[BitVec.toNat_ushiftRight]
 have e:min ((i:Int)).toNat IntKind.u64.bits=i:=by
  show min i 64=i
  omega
 rw[e,Nat.shiftRight_eq_div_pow,Int.fdiv_eq_ediv_of_nonneg _ (Int.pow_nonneg (by omega)),Int.natCast_ediv,Int.natCast_pow]
 rfl
abbrev bit(x:M64)(i:Nat):Bool:=x.getLsbD i
theorem Ae{x y:M64}(h:∀i,i<64->bit x i=bit y i):x=y:=BitVec.eq_of_getLsbD_eq h
theorem uw(x:M64){i:Nat}(h:64≤i):bit x i=false:=BitVec.getLsbD_of_ge x i h
def one(i:Nat):M64:=1#64 <<< i
theorem uy{i j:Nat}(hi:i<64):bit (one i) j=decide (j=i):=by
 unfold bit one
 rw[BitVec.getLsbD_shiftLeft]
 by_cases h:j=i
 ·subst h;simp [hi]
 ·by_cases h2:j<i
  ·simp [h,h2]
  ·have:0<j-i:=by omega
   by_cases h3:j<64
   ·simp [h,h2,h3,BitVec.getLsbD_one];omega
   ·simp [h,h3]
theorem mg(x y:M64)(i:Nat):bit (x&&& y) i=(bit x i&&bit y i):=BitVec.getLsbD_and
theorem Gi(x y:M64)(i:Nat):bit (x||| y) i=(bit x i||bit y i):=BitVec.getLsbD_or
theorem uz(x y:M64){i:Nat}:bit (x&&& ~~~y) i=(bit x i&&!bit y i):=by
 unfold bit
 rw[BitVec.getLsbD_and,BitVec.getLsbD_not]
 by_cases h:i<64
 ·simp [h]
 ·rw[BitVec.getLsbD_of_ge x i (by omega)];rfl
theorem P8{x:M64}:x=0#64↔∀i,i<64->bit x i=false:=by
 constructor
 ·rintro rfl i _;exact BitVec.getLsbD_zero
 ·intro h;exact Ae λi hi=>by rw[h i hi];exact BitVec.getLsbD_zero.symm
theorem toNat_zero_iff{x:M64}:((x.toNat:Int)=0)↔x=0#64:=by
 constructor
 ·intro h;apply BitVec.eq_of_toNat_eq;show x.toNat=0;omega
 ·rintro rfl;rfl
theorem UJ(x:M64){i:Nat}:decide ((((x >>> i)&&& 1#64).toNat:Int)=1)=bit x i:=by
 have h:((x >>> i)&&& 1#64).toNat=if bit x i then 1 else 0:=by
  have e:(x >>> i)&&& 1#64=if bit x i then 1#64 else 0#64:=by
   apply BitVec.eq_of_getLsbD_eq
   intro j hj
   rw[BitVec.getLsbD_and,BitVec.getLsbD_ushiftRight,BitVec.getLsbD_one]
   unfold bit
   by_cases h0:j=0
   ·subst h0;cases hb:x.getLsbD i<;>simp [hb]
   ·cases hb:x.getLsbD i<;>simp [h0,BitVec.getLsbD_one]
  rw[e];split<;>rfl
 rw[h]
 cases bit x i<;>rfl
def tz(x:M64):Nat:=((List.range 64).find? λi=>bit x i).getD 64
def bits(x:M64):List Nat:=(List.range 64).filter λi=>bit x i
theorem gV{x:M64}{i:Nat}:i∈bits x↔bit x i=true:=by
 unfold bits
 rw[List.mem_filter,List.mem_range]
 constructor
 ·exact λh=>h.2
 ·intro h
  refine⟨?_,h⟩
  by_cases hi:i<64
  ·exact hi
  ·rw[uw x (by omega)] at h;cases h
theorem find_range{p:Nat->Bool}:∀{n k:Nat},(List.range n).find? p=some k↔k<n∧p k=true∧∀j,j<k->p j=false:=by
 intro n k
 rw[List.find?_range_eq_some]
 simp only[List.mem_range,afR,Bool.not_eq_eq_eq_not,Bool.not_true]
 constructor
 ·rintro ⟨h1,h2,h3⟩;exact⟨h2,h1,h3⟩
 ·rintro ⟨h1,h2,h3⟩;exact⟨h2,h1,h3⟩
theorem xk{x:M64}(h:x≠0#64):tz x<64∧bit x (tz x)=true∧∀j,j<tz x->bit x j=false:=by
 have hex:∃k,(List.range 64).find? (λi=>bit x i)=some k:=by
  cases hf:(List.range 64).find? (λi=>bit x i) with
  | some k=>exact⟨k,rfl⟩
  | none=>
   exfalso
   rw[List.find?_eq_none] at hf
   refine h (P8.2 λi hi=>?_)
   have:=hf i (List.mem_range.2 hi)
   simpa using this
 obtain⟨k,hk⟩:=hex
 have e:tz x=k:=by unfold tz;rw[hk];rfl
 rw[e]
 exact find_range.1 hk
theorem UK{x:M64}(h:x≠0#64):∃q,x.toNat=2 ^ (tz x+1)*q+2 ^ tz x:=by
 obtain⟨h1,h2,h3⟩:=xk h
 generalize hk:tz x=k at *
 refine⟨x.toNat/2 ^ (k+1),?_⟩
 have hmod:x.toNat%2 ^ (k+1)=2 ^ k:=by
  apply Nat.eq_of_testBit_eq
  intro j
  rw[Nat.testBit_mod_two_pow,Nat.testBit_two_pow]
  by_cases hj:j<k+1
  ·simp only[hj,decide_true,Bool.true_and]
   by_cases hjk:k=j
   ·subst hjk;simp only[decide_true];exact h2
   ·have:j<k:=by omega
    simp only[hjk,decide_false]
    exact h3 j this
  ·have:¬k=j:=by omega
   simp [hj,this]
 have:=Nat.div_add_mod x.toNat (2 ^ (k+1))
 omega
theorem M6{x:M64}(h:x≠0#64){i:Nat}(hi:i<64):bit (x-1#64) i=if i<tz x then true else if i=tz x then false else bit x i:=by
 obtain⟨q,hq⟩:=UK h
 obtain⟨h1,h2,h3⟩:=xk h
 generalize hk:tz x=k at *
 have hpos:0<2 ^ k:=Nat.two_pow_pos k
 have e:(x-1#64).toNat=2 ^ (k+1)*q+(2 ^ k-1):=by
  rw[BitVec.toNat_sub]
  have hx:=toNat_lt x
  show (2 ^ 64-1+x.toNat)%2 ^ 64=_
  omega
 have hlt:2 ^ k-1<2 ^ (k+1):=by rw[Nat.pow_succ];omega
 have hlt2:2 ^ k<2 ^ (k+1):=by rw[Nat.pow_succ];omega
 show (x-1#64).toNat.testBit i=if i<k then true else if i=k then false else x.toNat.testBit i
 rw[e,hq,Nat.testBit_two_pow_mul_add _ hlt,Nat.testBit_two_pow_mul_add _ hlt2,Nat.testBit_two_pow_sub_one,Nat.testBit_two_pow]
 by_cases c1:i<k
 ·simp [c1,show i<k+1 by omega]
 ·by_cases c2:i=k
  ·subst c2;simp
  ·simp [c1,c2,show ¬i<k+1 by omega]
theorem Gj{x:M64}(h:x≠0#64){i:Nat}(hi:i<64):bit (x&&& (x-1#64)) i=(bit x i&&!decide (i=tz x)):=by
 rw[mg,M6 h hi]
 obtain⟨h1,h2,h3⟩:=xk h
 by_cases c1:i<tz x
 ·rw[h3 i c1];rfl
 ·by_cases c2:i=tz x
  ·simp [c2]
  ·simp [c1,c2]
theorem aai{x:M64}(h:x≠0#64):x&&& (-x)=one (tz x):=by
 obtain⟨h1,h2,h3⟩:=xk h
 have e:-x = ~~~(x-1#64):=by
  have:=BitVec.neg_eq_not_add x
  apply BitVec.eq_of_toNat_eq
  rw[BitVec.toNat_neg,BitVec.toNat_not,BitVec.toNat_sub]
  have hx:=toNat_lt x
  have h0:x.toNat≠0:=λh0=>h (by apply BitVec.eq_of_toNat_eq;exact h0)
  show (2 ^ 64-x.toNat)%2 ^ 64=2 ^ 64-1-(2 ^ 64-1+x.toNat)%2 ^ 64
  omega
 rw[e]
 refine Ae λi hi=>?_
 rw[uz,M6 h hi,uy h1]
 by_cases c1:i<tz x
 ·rw[h3 i c1];simp;omega
 ·by_cases c2:i=tz x
  ·rw[c2,h2];simp
  ·simp [c1,c2]
theorem UL{x:M64}(h:x≠0#64):bits x=tz x::bits (x&&& (x-1#64)):=by
 obtain⟨h1,h2,h3⟩:=xk h
 have e:List.range 64=List.range (tz x)++tz x::(List.range (63-tz x)).map (λi=>tz x+1+i):=by
  have:List.range 64=List.range (tz x+(1+(63-tz x))):=by congr 1;omega
  rw[this,List.range_add,List.range_add]
  simp [List.range_succ,List.map_map]
  intro a _
  omega
 unfold bits
 have f:∀(p:Nat->Bool),(∀j,j<tz x->p j=false)->(List.range (tz x)).filter p=[]:=λp hp=>List.filter_eq_nil_iff.2 λj hj=>by rw[hp j (List.mem_range.1 hj)];simp
 rw[e,List.filter_append,List.filter_append,f _ h3,f (λi=>bit (x&&& (x-1#64)) i) (λj hj=>by rw[Gj h (by omega),h3 j hj];rfl),List.nil_append,List.nil_append,List.filter_cons_of_pos h2,List.filter_cons_of_neg (by rw[Gj h h1];simp)]
 congr 1
 refine List.filter_congr λj hj=>?_
 obtain⟨k,hk,rfl⟩:=List.mem_map.1 hj
 have:=List.mem_range.1 hk
 rw[Gj h (by omega)]
 simp;omega
theorem UM:bits 0#64=[]:=List.filter_eq_nil_iff.2 λj _=>by simp [bit]
theorem aaj{x:M64}{i:Nat}(h:i∈bits x):i<64:=List.mem_range.1 (List.mem_filter.1 h).1
theorem P9(x:M64):(bits x).Nodup:=List.nodup_range.filter _
def inM(i:Int):Bool:=decide (0≤i)&&decide (i<64)
theorem Dy(i:Int):Pure PG 145 [vi i] (vb (inM i)) []:=by
 refine aD.mk (cfg 9) av [] Tryz.func145 Z (by kernel_rfl) Z Z Z ?_
 intro C x
 refine x.exit Z tR ?_
 exact⟨.inr Z,Z,tR,Z⟩
def H9(m:M64)(i:Int):Bool:=inM i&&bit m i.toNat
theorem wo(m:M64)(i:Nat):H9 m (i:Int)=bit m i:=by
 unfold H9 inM
 by_cases h:i<64
 ·simp;omega
 ·rw[show ((i:Int)).toNat=i by omega,uw m (by omega)];simp
theorem Gl(m:M64)(i:Int):Pure PG 87 [vm m,vi i] (vb (H9 m i)) []:=by
 refine aD.mk (cfg 14) av [] Tryz.func87 Z (by kernel_rfl) Z Z Z ?_
 intro C x
 refine x.pure Z tR Z (Dy i) ⟨Z,tR⟩ ?_
 refine x.exit Z (by simp only[ak,TQ,imp];intro h;simp [inM] at h;exact h.1) ?_
 refine⟨.inr Z,?_,tR,Z⟩
 show aB (.d (.bool _)) (vb (H9 m i))
 refine ah (congrArg D.bool ?_)
 unfold H9
 cases hi:inM i with
 | false=>rfl
 | true=>
  simp only[inM,afF,afL] at hi
  obtain⟨n,rfl⟩:=Int.eq_ofNat_of_zero_le hi.1
  have e:=abj m (i:=n) (by omega)
  have e2:=RZ (m >>> n) 1#64
  show decide (bT .and .u64 (((m.toNat:Int)).fdiv (2 ^ (min ((n:Int)).toNat IntKind.u64.bits))) 1=1)=_
  rw[e,show (1:Int)=((1#64:M64).toNat:Int) from rfl,e2]
  exact UJ m
def wu(m:M64)(i:Int):M64:=if inM i then m||| one i.toNat else m
theorem BS(m:M64)(i:Int):Pure PG 86 [vm m,vi i] (vm (wu m i)) []:=by
 refine aD.mk (cfg 12) av [] Tryz.func86 Z (by kernel_rfl) Z Z Z ?_
 intro C x
 refine x.pure Z tR Z (Dy i) ⟨Z,tR⟩ ?_
 refine x.cond Z tR (λh=>?_) (λh=>?_)
 ·have hi:=h
  simp only[inM,afF,afL] at hi
  obtain⟨n,rfl⟩:=Int.eq_ofNat_of_zero_le hi.1
  refine x.exit Z (by simp only[ak];omega) ?_
  refine⟨.inr Z,?_,tR,Z⟩
  refine ah (congrArg (D.int .u64) ?_)
  rw[abh (i:=n) (by omega),aah]
  unfold wu
  rw[if_pos h];rfl
 ·refine x.exit Z tR ?_
  refine⟨.inr Z,?_,tR,Z⟩
  unfold wu
  rw[if_neg (by rw[h];simp)]
  exact (show aB (vm m) (vm m) from ah Z)
def Gm(m:M64)(i:Int):M64:=if inM i then m&&& ~~~ one i.toNat else m
theorem BU(m:M64)(i:Int)(j:Nat):bit (wu m i) j=(bit m j||decide (j<64∧(j:Int)=i)):=by
 unfold wu
 split
 ·rename_i h
  simp only[inM,afF,afL] at h
  rw[Gi,uy (by omega)]
  congr 1
  simp only[decide_eq_decide]
  omega
 ·rename_i h
  simp only[inM,afF,afL] at h
  have:¬(j<64∧(j:Int)=i):=by omega
  simp [this]
theorem Kw(m:M64)(i:Int)(j:Nat):bit (Gm m i) j=(bit m j&&!decide ((j:Int)=i)):=by
 unfold Gm
 split
 ·rename_i h
  simp only[inM,afF,afL] at h
  rw[uz,uy (by omega)]
  congr 2
  simp only[decide_eq_decide]
  omega
 ·rename_i h
  simp only[inM,afF,afL] at h
  by_cases hj:j<64
  ·have:¬((j:Int)=i):=by omega
   simp [this]
  ·rw[uw m (by omega)];rfl
def BX:Nat->M64
 | 0=>0#64
 | n+1=>BX n||| one n
def wC(n:Int):Int:=if 64<(if 0 > n then 0 else n) then 64 else if 0 > n then 0 else n
theorem Je(n:Int):wC n=min (max n 0) 64:=by unfold wC;split<;>split<;>omega
def rF(n:Int):M64:=BX (wC n).toNat
theorem Gn:∀{n:Nat},n≤64->∀j,bit (BX n) j=decide (j<n)
 | 0,_,j=>by simp [BX,bit]
 | n+1,h,j=>by
  rw[BX,Gi,Gn (by omega),uy (by omega)]
  by_cases h1:j<n
  ·simp [h1];omega
  ·by_cases h2:j=n
   ·simp [h2]
   ·simp [h1,h2];omega
theorem Qa(n:Int)(j:Nat):bit (rF n) j=decide (j<64∧(j:Int)<n):=by
 unfold rF
 have:=Je n
 rw[Gn (by omega)]
 simp only[decide_eq_decide]
 omega
theorem Qb(n:Int)(hn:aj n):Pure PG 162 [vi n] (vm (rF n)) []:=by
 refine aD.mk (cfg 17) av [] Tryz.func162 Z (by kernel_rfl) Z Z Z ?_
 intro C x
 unfold aj at hn
 have hcl:=Je n
 refine x.loop (α:={k:Nat // (k:Int)≤wC n}) (λy=>⟨[(3,vm (BX y.1)),(7,vi (wC n)),(8,vi (y.1:Int))],[],0⟩) (λy=>64-y.1) ⟨0,by omega⟩ Z tR ?_ (λy=>?_)
 ·exact⟨⟨Z,Z,Z,tR⟩,tR,Z⟩
 obtain⟨k,hk⟩:=y
 refine x.cond Z tR (λh=>?_) (λh=>?_)
 ·have h:(k:Int)<wC n:=by simpa using h
  refine x.back Z (by simp only[ak,aj];omega) ⟨⟨k+1,by omega⟩,by show 64-(k+1)<64-k;omega,?_⟩
  refine⟨⟨ah (congrArg (D.int .u64) ?_),Z,by show aB (vi ((k:Int)+1)) (vi ((k+1:Nat):Int));rw[afQ];rfl,tR⟩,tR,Z⟩
  rw[abh (i:=k) (by omega),aah];rfl
 ·have h:¬(k:Int)<wC n:=by simpa using h
  refine x.exit Z tR ?_
  refine⟨.inr Z,ah (congrArg (D.int .u64) ?_),tR,Z⟩
  unfold rF
  rw[show (wC n).toNat=k by omega]
theorem X5:∀k:Fin 64,xX.getD (((one k.1*285870213051353865#64) >>> 58).toNat) 0=(k.1:Int):=by decide
theorem X6:J9 PG.env 4 64 (λc=>.int .u8 (xX.getD c 0)):=by
 refine⟨λc=>.int .u8 (xX.getD c 0),?_,λj hj=>rfl⟩
 show _∈PG.env
 unfold PG
 simp
theorem Ia(m:M64):Pure PG 188 [vm m] (vi (tz m:Int)) []:=by
 refine aD.mk (cfg 14) av [] Tryz.func188 Z (by kernel_rfl) Z Z Z ?_
 intro C x
 refine x.cond Z tR (λh=>?_) (λh=>?_)
 ·have h:(m.toNat:Int)=0:=by simpa using h
  refine x.exit Z tR ?_
  refine⟨.inr Z,?_,tR,Z⟩
  rw[toNat_zero_iff.1 h]
  exact (show aB (vi 64) (vi ((tz 0#64:Nat):Int)) from rfl)
 ·have h:¬(m.toNat:Int)=0:=by simpa using h
  have h0:m≠0#64:=λe=>h (toNat_zero_iff.2 e)
  obtain⟨t1,t2,t3⟩:=xk h0
  have e:(IntKind.u64.wrap (bT .and .u64 (m.toNat:Int) (IntKind.u64.wrap (0-(m.toNat:Int)))*285870213051353865)).fdiv (2 ^ (min (58:Int).toNat IntKind.u64.bits))=(((one (tz m)*285870213051353865#64) >>> 58).toNat:Int):=by
   rw[ae5,RZ,aai h0,show (285870213051353865:Int)=((285870213051353865#64:M64).toNat:Int) from rfl,ae6]
   exact abj _ (i:=58) (by omega)
  have hb:(((one (tz m)*285870213051353865#64) >>> 58).toNat)<64:=by
   rw[BitVec.toNat_ushiftRight,Nat.shiftRight_eq_div_pow]
   have:=toNat_lt (one (tz m)*285870213051353865#64)
   omega
  refine x.adD (λc=>.int .u8 (xX.getD c 0)) Z (by simp only[ak];omega) Z X6 ?_ ?_
  ·rw[e];omega
  have hk:=X5 ⟨tz m,t1⟩
  refine x.exit Z ?_ ?_
  ·show aj _
   rw[e,afT,hk]
   show aj (tz m:Int)
   unfold aj;omega
  refine⟨.inr Z,?_,tR,Z⟩
  refine ah (congrArg (D.int .i64) ?_)
  rw[e,afT,hk]
theorem Gp(m:M64):Pure PG 163 [vm m] (.fn 187 [.ptr 0 0]) [.box [vm m]]:=by
 refine aD.mk (cfg 4) av [0] Tryz.func163 Z (by kernel_rfl) Z Z Z ?_
 intro C x
 refine x.exit Z tR ?_
 exact⟨.inr Z,Z,⟨⟨Z,tR⟩,tR⟩,Z⟩
theorem M7{y:M64}(hy0:y≠0#64):Go.bits BinOp.and IntKind.u64 (y.toNat:Int) ((y.toNat:Int)-1)=((y&&& (y-1#64)).toNat:Int):=by
 rw[←RZ,←acD,wrap_u64]
 have:=toNat_lt y
 have:y.toNat≠0:=λe=>hy0 (by apply BitVec.eq_of_toNat_eq;exact e)
 rw[Int.emod_eq_of_lt (by omega) (by omega)]
 rfl
theorem Qc(m:M64)(l:Nat)(J Jx:Nat->World->Prop)(W:World)(b:Nat)(hJm:∀k W W',J k W->Mod none W W'->J k W')(hE:∀k W,J k W->∃F',jv PG.env F' W∧(∀k,F' k->k<W.heap.size))(h0:J 0 W)
  (hb:W.cell? ⟨b,0,none⟩=some (.int .u64 (m.toNat:Int)))
  (hY:∀(k:Nat) (i:Nat) W1,(bits m)[k]?=some i->J k W1->YieldAt Fence.wide 7 Tryz.prog l #[.int .i64 (i:Int)] W1 λe W'=>(e=.returned (.bool true)∧J (k+1) W')∨(e=.returned (.bool false)∧Jx k W')) :
  CallsIn Fence.wide 8 Tryz.prog 187 #[.func (.yield l) #[] #[],.pointer (some ⟨b,0,none⟩)] W λe W'=>(∃v,e=.returned v)∧(J (bits m).length W'∨∃k,k<(bits m).length∧Jx k W'):=by
 refine callsIn_of_wp Tryz.func187 Z tR ?_ Z
 simp only[Tryz.ntmps187,List.size_toArray,List.length_cons,List.length_nil,Nat.reduceAdd,Nat.reduceSub,Array.replicate_succ,Array.replicate_zero,List.push_toArray,List.append_toArray,List.nil_append,List.cons_append]
 gi_wp2
 gi_loopw [3] (λp wr=>∃(k:Nat) (y:M64),p=.int .u64 (y.toNat:Int)∧k≤(bits m).length∧bits y=(bits m).drop k∧J k wr) (λp wr=>match p with | .int _ n=>n.toNat | _=>0)
 case atStart=>exact⟨0,m,Z,Nat.zero_le _,Z,h0⟩
 case round=>
  obtain⟨k,y,rfl,hkl,hk,hJ⟩:=hrel
  by_cases hy0:y=0#64
  ·subst hy0
   have hkl2:k=(bits m).length:=by
    rw[UM] at hk
    have:=congrArg List.length hk
    simp at this
    omega
   gi_wp2
   go_end0
   exact⟨⟨_,Z⟩,.inl (hkl2▸hJ)⟩
  ·have hne:¬((y.toNat:Int)=0):=λe=>hy0 (toNat_zero_iff.1 e)
   have hst:=UL hy0
   have hget:(bits m)[k]?=some (tz y):=by
    have:((bits m).drop k)[0]?=some (tz y):=by rw[←hk,hst];rfl
    simpa using this
   have ae7:k<(bits m).length:=(List.getElem?_eq_some_iff.1 hget).1
   obtain⟨F',hE',hF'⟩:=hE k wr hJ
   have hTZ:Calls Tryz.prog 188 #[.int .u64 (y.toNat:Int)] wr λe w'=>e=.returned (.int .i64 (tz y:Int))∧Sx.Mod none wr w':=by
    refine ((Ia y).2.2.2.2.2 wr F' (λ_=>.bool true) [.int .u64 (y.toNat:Int)] hF' hE' ⟨λi c hc=>by simp at hc,λi j b hi=>absurd hi (afN _),λi b hi=>absurd hi (afN _)⟩ ⟨RD.int _ _,tR⟩).mono ?_
    rintro e w' ⟨v,ρ',F'',rfl,hk,_,_,_,_,hr,_⟩
    refine⟨?_,⟨hk.os,hk.tape,hk.output,hk.size,λk hlt _=>hk.block k hlt (λ⟨i,hi,_⟩=>absurd hi (afN _))⟩⟩
    cases (show RD F'' w' (.int .i64 (tz y:Int)) v from hr);rfl
   gi_wp2_with (refine⟨tR,?_⟩;gi_at_call 188;refine (callsIn_wide.2 hTZ).mono ?_;rintro e w1 ⟨rfl,hm⟩)
   obtain⟨fn,tmps,assign,body,hy,hR⟩:=hY k (tz y) w1 hget (hJm k _ _ hJ hm)
   gi_wp2
   rw[hy,Oper.uponIn_round]
   refine⟨λh=>(by cases h),hR.mono ?_⟩
   rintro e W3 (⟨rfl,hJ3⟩ | ⟨rfl,hJx3⟩)
   ·gi_wp2
    go_roundw
    case rel=>
     refine⟨k+1,y&&& (y-1#64),?_,ae7,?_,hJ3⟩
     ·rw[M7 hy0]
     ·rw[←List.drop_drop,←hk,hst];rfl
    case measure=>
     rw[M7 hy0]
     show ((y&&& (y-1#64)).toNat:Int).toNat<(y.toNat:Int).toNat
     have h1:(y&&& (y-1#64)).toNat≤(y-1#64).toNat:=by rw[BitVec.toNat_and];exact Nat.and_le_right
     have h2:(y-1#64).toNat<y.toNat:=by
      rw[BitVec.toNat_sub]
      have:=toNat_lt y
      have:y.toNat≠0:=λe=>hy0 (by apply BitVec.eq_of_toNat_eq;exact e)
      show (2 ^ 64-1+y.toNat)%2 ^ 64<y.toNat
      omega
     omega
   ·gi_wp2
    refine bodyPost_ret (results_none Z _ _ _) Z ?_
    exact⟨⟨_,Z⟩,.inr ⟨k,ae7,hJx3⟩⟩
theorem Ky(m:M64):Its PG 187 [.ptr 0 0] [.box [vm m]] ((bits m).map λ(i:Nat)=>[vi (i:Int)]):=by
 refine⟨jF Tryz.func187 (by kernel_rfl) (by kernel_rfl),Z,λx hx=>?_,λw F ρ cs hF hE hH hargs l J Jx hJm hJe h0 hY=>?_⟩
 ·obtain⟨i,_,rfl⟩:=List.mem_map.1 hx
  rfl
 obtain⟨b,cs',T,e1,e2,e3⟩:=hH.ch 0 _ Z
 match cs,hargs with
 | [v],⟨⟨b',f1,f2⟩,_⟩=>
  rw[e1] at f1
  simp only[Value.pointer.injEq,afJ,Addr.mk.injEq,and_true] at f1
  subst f1 f2
  match cs',e3 with
  | [c],⟨hc,_⟩=>
   have hc2:c=.int .u64 (m.toNat:Int):=by cases (show RD F w (dm m) c from hc);rfl
   subst hc2
   have hb:w.cell? ⟨b,0,none⟩=some (.int .u64 (m.toNat:Int)):=by simp [World.cell?,e2]
   have:=Qc m l J Jx w b hJm (λk W hJ=>(hJe k W hJ).1) h0 hb (λk i W1 hk hJ=>hY k [vi (i:Int)] W1 [.int .i64 (i:Int)] (by rw[List.getElem?_map,hk];rfl) hJ ⟨RD.int _ _,tR⟩)
   rw[List.length_map]
   exact this
  | [],h=>exact h.elim
  | _::_::_,⟨_,h⟩=>exact h.elim
 | [],h=>exact h.elim
 | _::_::_,⟨_,h⟩=>exact h.elim
def X7(m:M64):Int:=((bits m).length:Int)
def upA(up:List M64)(i:Nat):M64:=up.getD i 0#64
def dUp(up:List M64):D:=.sl 1 up.length (λi=>[dm (upA up i)])
abbrev vU(up:List M64):V:=.d (dUp up)
def InU(n:Nat)(m:M64):Prop:=∀i,bit m i=true->i<n
def X8(p:Nat->Bool):Nat->M64
 | 0=>0#64
 | n+1=>X8 p n||| (if p n then one n else 0#64)
def ofP(p:Nat->Bool):M64:=X8 p 64
theorem M8(p:Nat->Bool):∀{n:Nat},n≤64->∀i,bit (X8 p n) i=(decide (i<n)&&p i)
 | 0,_,i=>by simp [X8,bit]
 | n+1,h,i=>by
  have hb:bit (if p n then one n else 0#64) i=(decide (i=n)&&p n):=by
   cases hp:p n with
   | true=>rw[if_pos rfl,uy (by omega)];simp
   | false=>simp [bit]
  rw[X8,Gi,M8 p (by omega),hb]
  by_cases h1:i<n
  ·have h2:¬i=n:=by omega
   have h3:i<n+1:=by omega
   simp [h1,h2,h3]
  ·by_cases h2:i=n
   ·subst h2;simp
   ·have h3:¬i<n+1:=by omega
    simp [h1,h2,h3]
theorem gW(p:Nat->Bool){i:Nat}(hi:i<64):bit (ofP p) i=p i:=by
 unfold ofP
 rw[M8 p (Nat.le_refl _)]
 simp [hi]
theorem Jf{p q:Nat->Bool}(h:∀i,i<64->p i=q i):ofP p=ofP q:=Ae λi hi=>by rw[gW p hi,gW q hi,h i hi]
def wD(up:List M64)(set:M64):List Nat->Int
 | []=>-1
 | k::r=>if set&&& ~~~ upA up k=0#64 then (k:Int) else wD up set r
def nT(up:List M64)(set:M64):Int:=wD up set (bits set)
def kJ(up:List M64)(i:Nat):Bool:=
 bit (upA up i) i&&decide (upA up i&&& ~~~ ofP (λj=>decide (j<up.length))=0#64)&&(bits (upA up i)).all λk=>decide (upA up k&&& ~~~ upA up i=0#64)&&!(decide (k≠i)&&bit (upA up k) i)
def dV(up:List M64):Bool:=decide (1≤up.length)&&decide (up.length≤64)&&(List.range up.length).all (kJ up)
def xZ(up:List M64):Bool:=(List.range up.length).all λa=>(List.range a).all λb=>decide (0≤nT up (upA up a&&& upA up b))
def fJ(up:List M64):List M64:=(List.range up.length).map λk=>ofP λi=>decide (i<up.length)&&bit (upA up i) k
def dW(up:List M64):Bool:=dV up&&(xZ up&&xZ (fJ up))
theorem pW(up:List M64):(fJ up).length=up.length:=by simp [fJ]
theorem yX(up:List M64){k:Nat}(hk:k<up.length):upA (fJ up) k=ofP λi=>decide (i<up.length)&&bit (upA up i) k:=by
 unfold upA fJ
 rw[afE,List.getElem?_map,List.getElem?_range hk];rfl
theorem jZ{x y:M64}:x&&& ~~~ y=0#64↔∀i,bit x i=true->bit y i=true:=by
 rw[P8]
 constructor
 ·intro h i hi
  by_cases h64:i<64
  ·have:=h i h64
   rw[uz,hi] at this
   simpa using this
  ·rw[uw x (by omega)] at hi;cases hi
 ·intro h i hi
  rw[uz]
  cases hx:bit x i with
  | false=>rfl
  | true=>rw[h i hx];rfl
theorem BZ{up:List M64}(h:dV up=true){i:Nat}(hi:i<up.length):InU up.length (upA up i):=by
 unfold dV at h
 simp only[afF,afL,List.all_eq_true] at h
 have:=h.2 i (List.mem_range.2 hi)
 unfold kJ at this
 simp only[afF,afL] at this
 intro j hj
 have h2:=jZ.1 this.1.2 j hj
 have hj64:j<64:=by
  by_cases h64:j<64
  ·exact h64
  ·rw[uw _ (by omega)] at hj;cases hj
 rw[gW _ hj64] at h2
 simpa using h2
theorem sG{up:List M64}(h:dV up=true):1≤up.length∧up.length≤64:=by
 unfold dV at h
 simp only[afF,afL] at h
 exact h.1
theorem Qd{up:List M64}{k:Nat}(hk:k<up.length):InU (fJ up).length (upA (fJ up) k):=by
 intro i hi
 rw[pW,yX up hk] at *
 have h64:i<64:=by
  by_cases h64:i<64
  ·exact h64
  ·rw[uw _ (by omega)] at hi;cases hi
 rw[gW _ h64] at hi
 simp only[afF,afL] at hi
 exact hi.1
theorem aak{n:Nat}{x y:M64}(h:InU n x):InU n (x&&& y):=λi hi=>h i (by rw[mg] at hi;simp at hi;exact hi.1)
theorem drop_cons{α:Type}{l:List α}{k:Nat}{a:α}(h:l[k]?=some a):l.drop k=a::l.drop (k+1):=by
 obtain⟨h1,rfl⟩:=List.getElem?_eq_some_iff.1 h
 rw[List.drop_eq_getElem_cons h1]
theorem Kz{m:M64}{k:Nat}{y:List V}(h:((bits m).map λ(i:Nat)=>[vi (i:Int)])[k]?=some y):∃i,(bits m)[k]?=some i∧y=[vi (i:Int)]∧bit m i=true∧i<64:=by
 rw[List.getElem?_map] at h
 cases hk:(bits m)[k]? with
 | none=>rw[hk] at h;cases h
 | some i=>
  rw[hk] at h
  have hm:=List.mem_of_getElem? hk
  exact⟨i,Z,by simpa using h.symm,gV.1 hm,aaj hm⟩
theorem wE{m:M64}:((bits m).map λ(i:Nat)=>[vi (i:Int)]).length=(bits m).length:=List.length_map ..
theorem qP{x y:M64}:bT .andNot .u64 (x.toNat:Int) (y.toNat:Int)=0↔x&&& ~~~ y=0#64:=by rw[X4,toNat_zero_iff]
theorem Qe(up:List M64)(set:M64)(hi:InU up.length set):Pure PG 116 [vU up,vm set] (vi (nT up set)) []:=by
 refine aD.mkR (cfg 17) av [] Tryz.func116 Z (by kernel_rfl) Z Z Z ?_
 intro C x hmk
 refine x.pure Z tR Z (Gp set) ⟨Z,tR⟩ ?_
 refine x.range (ps:=[8]) hmk [3] (λk=>wD up set ((bits set).drop k)=nT up set) (λk=>[(0,.box [vU up]),(1,.box [vm set]),(2,.box [vi 0])]) (λk c H'=>c=.ret∧H'=[(2,.box [vi (((bits set).getD k 0:Nat):Int)])]∧set&&& ~~~ upA up ((bits set).getD k 0)=0#64) Z tR Z (Ky set) ⟨⟨Z,Z⟩,tR⟩ Z ⟨⟨Z,tR⟩,tR⟩ (λy hy=>?_) (λk=>rfl) (λk c H' h=>by obtain⟨_,rfl,_⟩:=h;rfl) Z ⟨⟨ah Z,tR⟩,⟨Z,tR⟩,⟨Z,tR⟩,tR⟩ (λk y hy hP C1 x1=>?_) (λhP=>?_) (λk c H' hk hP h=>?_)
 ·obtain⟨i,_,rfl⟩:=List.mem_map.1 hy
  rfl
 ·obtain⟨i,hgi,rfl,hb,h64⟩:=Kz hy
  have hi:=hi i hb
  have hgD:(bits set).getD k 0=i:=by rw[afE,hgi];rfl
  refine x1.exit Z tR ⟨Z,λC2 x2=>?_⟩
  refine x2.Xr Z tR ay (by kernel_rfl) o9.Xv ?_
  refine x2.bS Z (by simp only[ak];omega) ?_
  refine x2.cond Z tR (λh=>?_) (λh=>?_)
  ·have h0:=qP.1 (afH h)
   refine x2.exit Z tR ?_
   exact⟨[(2,.box [vi (((bits set).getD k 0:Nat):Int)])],⟨Z,Z,by rw[hgD];exact h0⟩,⟨ah (by rw[hgD]),tR⟩,tR⟩
  ·have h0:¬set&&& ~~~ upA up i=0#64:=λe=>afI h (qP.2 e)
   refine x2.exit Z tR ?_
   refine⟨?_,⟨ah Z,tR⟩,⟨Z,tR⟩,⟨Z,tR⟩,tR⟩
   rw[←hP,drop_cons hgi,wD,if_neg h0]
 ·refine x.exit Z tR ?_
  rw[wE,List.drop_length] at hP
  exact⟨.inr Z,(show aB (vi (-1)) (vi (nT up set)) by rw[←hP];rfl),tR,Z⟩
 ·obtain⟨rfl,rfl,h⟩:=h
  rw[wE] at hk
  refine x.exit Z tR ?_
  have hgi:(bits set)[k]?=some ((bits set).getD k 0):=by rw[afE,afG hk];rfl
  refine⟨.inr Z,?_,tR,Z⟩
  show aB (vi (((bits set).getD k 0:Nat):Int)) (vi (nT up set))
  rw[←hP,drop_cons hgi,wD,if_pos h]
  exact Z
def qA(up:List M64)(i:Nat)(l:List Nat)(k:Nat):M64:=ofP λa=>(decide (a<i)&&bit (upA up a) k)||(decide (a=i)&&decide (k∈l))
theorem UN{up:List M64}{i k r:Nat}{l:List Nat}(hi:i<64):(if r=k then wu (qA up i l k) (i:Int) else qA up i l r)=qA up i (l++[k]) r:=by
 refine Ae λa ha=>?_
 unfold qA
 rw[gW _ ha]
 split
 ·rename_i e
  subst e
  rw[BU,gW _ ha]
  by_cases h:a=i
  ·subst h;simp [ha]
  ·have:¬(a<64∧(a:Int)=(i:Int)):=by omega
   simp [h,this]
 ·rename_i e
  rw[gW _ ha]
  simp [e]
theorem UO{up:List M64}{i r:Nat}:qA up i (bits (upA up i)) r=qA up (i+1) [] r:=by
 unfold qA
 refine Jf λa ha=>?_
 by_cases h:a=i
 ·subst h
  by_cases hb:bit (upA up a) r=true
  ·simp [gV,hb]
  ·simp [gV,hb]
 ·by_cases h2:a<i
  ·have h3:a<i+1:=by omega
   simp [h,h2,h3]
  ·have h3:¬a<i+1:=by omega
   simp [h,h2,h3]
theorem UQ{up:List M64}{r:Nat}:qA up 0 [] r=0#64:=P8.2 λa ha=>by unfold qA;rw[gW _ ha];simp
theorem X9{up:List M64}{r:Nat}(hr:r<up.length):qA up up.length [] r=upA (fJ up) r:=by
 rw[yX up hr]
 unfold qA
 exact Jf λa ha=>by simp
abbrev Ca(n:Nat)(f:Nat->M64):Ch:=.vec 178 1 n λr=>[dm (f r)]
theorem take_succ{α:Type}{l:List α}{k:Nat}{a:α}(h:l[k]?=some a):l.take (k+1)=l.take k++[a]:=by
 obtain⟨h1,rfl⟩:=List.getElem?_eq_some_iff.1 h
 rw[List.take_succ_eq_append_getElem h1]
theorem M9(up:List M64)(h64:up.length≤64)(hin:∀i,i<up.length->InU up.length (upA up i)):Pure PG 117 [vU up] (.own 0) [Ca up.length λr=>upA (fJ up) r]:=by
 refine aD.mkR (cfg 31) av [0] Tryz.func117 Z (by kernel_rfl) Z Z Z ?_
 intro C x hmk
 refine x.loop (α:={i:Nat // i≤up.length}) (λy=>⟨[(0,vU up),(3,.ptr 1 0),(10,vi (up.length:Int)),(11,vi (y.1:Int))],[(0,Ca up.length λr=>qA up y.1 [] r),(1,.box [.own 0])],2⟩) (λy=>up.length-y.1) ⟨0,by omega⟩ Z ?_ ?_ (λy=>?_)
 ·simp only[ak,big,afT];omega
 ·refine⟨⟨au Z,⟨Z,Z⟩,Z,Z,tR⟩,⟨⟨Z,Z,afT _,λr hr=>?_⟩,⟨Z,tR⟩,tR⟩,Z⟩
  show [D.int .u64 0]=[dm (qA up 0 [] r)]
  rw[UQ];rfl
 obtain⟨i,hi⟩:=y
 change Go C _ ⟨[(0,vU up),(3,.ptr 1 0),(10,vi (up.length:Int)),(11,vi (i:Int))],[(0,Ca up.length λr=>qA up i [] r),(1,.box [.own 0])],2⟩ _
 refine x.cond Z tR (λh1=>?_) (λh1=>?_)
 ·have h1:i<up.length:=by have:=afH h1;omega
  refine x.pure Z ?_ Z (Gp (upA up i)) ⟨Z,tR⟩ ?_
  ·simp only[ak];omega
  refine x.range (ps:=[19]) hmk [3] (λ_=>True) (λk=>[(0,Ca up.length λr=>qA up i ((bits (upA up i)).take k) r),(1,.box [.own 0]),(2,.box [vi (i:Int)])]) (λ_ _ _=>False) Z tR Z (Ky (upA up i)) ⟨⟨Z,Z⟩,tR⟩ Z ⟨⟨Z,tR⟩,tR⟩ (λy hy=>?_) (λk=>rfl) (λk c H' h=>h.elim) tR ?_ (λk y hy _ C1 x1=>?_) (λ_=>?_) (λk c H' _ _ h=>h.elim)
  ·obtain⟨i,_,rfl⟩:=List.mem_map.1 hy
   rfl
  ·exact⟨⟨Z,Z,Z,λ_ _=>rfl⟩,⟨Z,tR⟩,⟨Z,tR⟩,tR⟩
  ·obtain⟨k',hgi,rfl,hb,hk64⟩:=Kz hy
   have hk:=hin i h1 k' hb
   refine x1.exit Z tR ⟨Z,λC2 x2=>?_⟩
   refine x2.adE [1,3] [0,2,4,5,6,7,8] [9] Z tR ay (by kernel_rfl) o9.bP o9.Xv ?_
   refine x2.lS Z ?_ Z (BS (qA up i ((bits (upA up i)).take k) k') i) Z Z ⟨Z,Z,tR⟩ ?_
   ·simp only[ak];omega
   refine x2.bS Z ?_ ?_
   ·simp only[ak];omega
   refine x2.exit Z ?_ ⟨tR,⟨Z,Z,Z,λr hr=>?_⟩,⟨Z,tR⟩,⟨Z,tR⟩,tR⟩
   ·simp only[ak,List.length,afT];omega
   ·have:=UN (up:=up) (i:=i) (k:=k') (r:=r) (l:=(bits (upA up i)).take k) (by omega)
    show Bg (λr=>[dm (qA up i ((bits (upA up i)).take k) r)]) k' 0 [dm (wu (qA up i ((bits (upA up i)).take k) k') (i:Int))] r=[dm (qA up i ((bits (upA up i)).take (k+1)) r)]
    rw[rW,take_succ hgi,←this]
    show [D.int .u64 (if r=k' then _ else _)]=[dm (if r=k' then _ else _)]
    split<;>rfl
  ·refine x.back Z ?_ ⟨⟨i+1,by omega⟩,by show up.length-(i+1)<up.length-i;omega,?_⟩
   ·simp only[ak,aj];omega
   ·refine⟨⟨au Z,⟨Z,Z⟩,Z,(show aB (vi ((i:Int)+1)) (vi ((i+1:Nat):Int)) by rw[afQ];rfl),tR⟩,⟨⟨Z,Z,Z,λr hr=>?_⟩,⟨Z,tR⟩,tR⟩,Z⟩
    show [dm (qA up i ((bits (upA up i)).take _) r)]=[dm (qA up (i+1) [] r)]
    rw[wE,List.take_length,UO]
 ·have h1:i=up.length:=by have:=afI h1;omega
  refine x.exit Z tR ?_
  refine⟨.inr Z,Z,⟨⟨Z,Z,Z,λr hr=>?_⟩,tR⟩,Z⟩
  show [dm (qA up i [] r)]=[dm (upA (fJ up) r)]
  rw[h1,X9 hr]
theorem UR{n:Nat}(h:n≤64):rF (n:Int)=ofP λj=>decide (j<n):=Ae λj hj=>by
 rw[Qa,gW _ hj]
 simp only[decide_eq_decide]
 omega
def Jg(up:List M64)(i k:Nat):Bool:=decide (upA up k&&& ~~~ upA up i=0#64)&&!(decide (k≠i)&&bit (upA up k) i)
theorem Dz(up:List M64)(i:Nat):kJ up i=(bit (upA up i) i&&decide (upA up i&&& ~~~ ofP (λj=>decide (j<up.length))=0#64)&&(bits (upA up i)).all (Jg up i)):=rfl
theorem Qf(up:List M64)(hl:aj (up.length:Int)):Pure PG 114 [vU up] (vb (dV up)) []:=by
 refine aD.mkR (cfg 59) av [] Tryz.func114 Z (by kernel_rfl) Z Z Z ?_
 intro C x hmk
 refine x.cond Z tR (λh0=>?_) (λh0=>?_)
 ·refine x.exit Z tR ⟨.inr Z,?_,tR,Z⟩
  show false=dV up
  have h0:(decide ((up.length:Int)<1)||decide (64<(up.length:Int)))=true:=h0
  rw[eq_comm,dV,Bool.and_eq_false_iff,Bool.and_eq_false_iff]
  simp only[Bool.or_eq_true,afL] at h0
  refine .inl (h0.imp (λh=>decide_eq_false (by omega)) (λh=>decide_eq_false (by omega)))
 have hlen:1≤up.length∧up.length≤64:=by
  have h0:(decide ((up.length:Int)<1)||decide (64<(up.length:Int)))=false:=h0
  simp only[afU,afP] at h0
  omega
 have hno:∀i,i<up.length->kJ up i=false->dV up=false:=λi hi h=>by
  rw[dV,Bool.and_eq_false_iff]
  refine .inr (List.all_eq_false.2 ⟨i,List.mem_range.2 hi,by rw[h];simp⟩)
 have hand:∀i,bT .andNot .u64 ((upA up i).toNat:Int) ((rF (up.length:Int)).toNat:Int)=0↔upA up i&&& ~~~ ofP (λj=>decide (j<up.length))=0#64:=λi=>by rw[qP,UR hlen.2]
 refine x.pure Z tR Z (Qb (up.length:Int) hl) ⟨Z,tR⟩ ?_
 refine x.loop (α:={i:Nat // i≤up.length∧∀a,a<i->kJ up a=true}) (λy=>⟨[(1,.ptr 0 0),(2,.ptr 1 0),(3,vm (rF (up.length:Int))),(18,vU up),(19,vi (up.length:Int)),(20,vi (y.1:Int))],[(0,.box [vU up]),(1,.box [vb false])],2⟩) (λy=>up.length-y.1) ⟨0,by omega,λa ha=>by omega⟩ Z tR ?_ (λy=>?_)
 ·exact⟨⟨⟨Z,Z⟩,⟨Z,Z⟩,Z,au Z,Z,Z,tR⟩,⟨⟨ah Z,tR⟩,⟨Z,tR⟩,tR⟩,Z⟩
 obtain⟨i,hi,hdone⟩:=y
 change Go C _ ⟨[(1,.ptr 0 0),(2,.ptr 1 0),(3,vm (rF (up.length:Int))),(18,vU up),(19,vi (up.length:Int)),(20,vi (i:Int))],[(0,.box [vU up]),(1,.box [vb false])],2⟩ _
 refine x.cond Z tR (λh1=>?_) (λh1=>?_)
 ·have h1:i<up.length:=by have:=afH h1;omega
  refine x.pure Z ?_ Z (Gl (upA up i) i) ⟨Z,Z,tR⟩ ?_
  ·simp only[ak];omega
  refine x.cond Z tR (λh2=>?_) (λh2=>?_)
  ·refine x.exit Z tR ⟨.inr Z,?_,tR,Z⟩
   show false=dV up
   refine (hno i h1 ?_).symm
   have h2:(!H9 (upA up i) (i:Int)||!decide (bT .andNot .u64 ((upA up i).toNat:Int) ((rF (up.length:Int)).toNat:Int)=0))=true:=h2
   rw[wo,Bool.or_eq_true,afR,afR,afP,hand] at h2
   rw[Dz,Bool.and_eq_false_iff,Bool.and_eq_false_iff]
   exact .inl (h2.imp id decide_eq_false)
  have hrow:bit (upA up i) i=true∧upA up i&&& ~~~ ofP (λj=>decide (j<up.length))=0#64:=by
   have h2:(!H9 (upA up i) (i:Int)||!decide (bT .andNot .u64 ((upA up i).toNat:Int) ((rF (up.length:Int)).toNat:Int)=0))=false:=h2
   rw[wo,afU,Bool.not_eq_false',Bool.not_eq_false',afL,hand] at h2
   exact h2
  have hin:InU up.length (upA up i):=λj hj=>by
   have h64:j<64:=by
    by_cases h64:j<64
    ·exact h64
    ·rw[uw _ (by omega)] at hj;cases hj
   have:=jZ.1 hrow.2 j hj
   rw[gW _ h64] at this
   simpa using this
  have abk:kJ up i=(bits (upA up i)).all (Jg up i):=by rw[Dz,hrow.1,decide_eq_true hrow.2];rfl
  refine x.pure Z tR Z (Gp (upA up i)) ⟨Z,tR⟩ ?_
  refine x.range (ps:=[37]) hmk [4] (λk=>∀j,j<k->Jg up i ((bits (upA up i)).getD j 0)=true) (λk=>[(0,.box [vU up]),(1,.box [vb false]),(2,.box [vi (i:Int)]),(3,.box [vm (upA up i)])]) (λk c H'=>c=.ret∧H'=[(1,.box [vb false])]∧Jg up i ((bits (upA up i)).getD k 0)=false) Z tR Z (Ky (upA up i)) ⟨⟨Z,Z⟩,tR⟩ Z ⟨⟨Z,tR⟩,tR⟩ (λy hy=>?_) (λk=>rfl) (λk c H' h=>by obtain⟨_,rfl,_⟩:=h;rfl) (λj hj=>by omega) ⟨⟨ah Z,tR⟩,⟨Z,tR⟩,⟨Z,tR⟩,⟨Z,tR⟩,tR⟩ (λk y hy hP C1 x1=>?_) (λhP=>?_) (λk c H' hk hP h=>?_)
  ·obtain⟨i,_,rfl⟩:=List.mem_map.1 hy
   rfl
  ·obtain⟨k',hgi,rfl,hb,hk64⟩:=Kz hy
   have hk:=hin k' hb
   have hgD:(bits (upA up i)).getD k 0=k':=by rw[afE,hgi];rfl
   refine x1.exit Z tR ⟨Z,λC2 x2=>?_⟩
   refine x2.Xr Z tR ay (by kernel_rfl) o9.Xv ?_
   refine x2.E9 Z ?_ Z (λ_ _=>Gl (upA up k') i) Z Z ⟨Z,Z,tR⟩ ?_
   ·have hh:0≤(k':Int)∧(k':Int)<(up.length:Int):=by omega
    exact⟨hh,λ_ _=>hh⟩
   refine x2.bS Z tR ?_
   have hE:Jg up i k'=!(!decide (bT .andNot .u64 ((upA up k').toNat:Int) ((upA up i).toNat:Int)=0)||(!decide ((k':Int)=(i:Int))&&H9 (upA up k') (i:Int))):=by
    unfold Jg
    rw[wo,Bool.not_or,Bool.not_not]
    congr 1
    ·rw[decide_eq_decide];exact qP.symm
    ·congr 2
     rw[decide_not]
     congr 1
     rw[decide_eq_decide];omega
   refine x2.cond Z tR (λh=>?_) (λh=>?_)
   ·refine x2.exit Z tR ?_
    refine⟨[(1,.box [vb false])],⟨Z,Z,?_⟩,⟨Z,tR⟩,tR⟩
    rw[hgD,hE]
    exact (congrArg not h).trans Z
   ·refine x2.exit Z tR ?_
    refine⟨λj hj=>?_,⟨ah Z,tR⟩,⟨Z,tR⟩,⟨Z,tR⟩,⟨Z,tR⟩,tR⟩
    by_cases e:j=k
    ·rw[e,hgD,hE]
     exact (congrArg not h).trans Z
    ·exact hP j (by omega)
  ·refine x.back Z ?_ ⟨⟨i+1,by omega,λa ha=>?_⟩,by show up.length-(i+1)<up.length-i;omega,?_⟩
   ·simp only[ak,aj];omega
   ·by_cases e:a=i
    ·rw[e,abk,List.all_eq_true]
     intro k' hk'
     obtain⟨k,hk,rfl⟩:=List.getElem_of_mem hk'
     have:=hP k (by rw[wE];exact hk)
     rwa [afE,afG hk] at this
    ·exact hdone a (by omega)
   ·exact⟨⟨⟨Z,Z⟩,⟨Z,Z⟩,Z,au Z,Z,(show aB (vi ((i:Int)+1)) (vi ((i+1:Nat):Int)) by rw[afQ];rfl),tR⟩,⟨⟨ah Z,tR⟩,⟨Z,tR⟩,tR⟩,Z⟩
  ·obtain⟨rfl,rfl,h⟩:=h
   rw[wE] at hk
   refine x.exit Z tR ⟨.inr Z,?_,tR,Z⟩
   show false=dV up
   refine (hno i h1 ?_).symm
   rw[abk,List.all_eq_false]
   exact⟨(bits (upA up i)).getD k 0,by rw[afE,afG hk];exact List.getElem_mem hk,by rw[h];simp⟩
 ·have h1:i=up.length:=by have:=afI h1;omega
  refine x.exit Z tR ⟨.inr Z,?_,tR,Z⟩
  show true=dV up
  rw[eq_comm,dV,decide_eq_true hlen.1,decide_eq_true hlen.2]
  refine List.all_eq_true.2 λa ha=>hdone a (by have:=List.mem_range.1 ha;omega)
theorem Qg{up:List M64}{a b:Nat}(ha:a<up.length)(hb:b<a)(h:nT up (upA up a&&& upA up b)<0):xZ up=false:=by
 unfold xZ
 rw[List.all_eq_false]
 refine⟨a,List.mem_range.2 ha,?_⟩
 rw[Bool.not_eq_true,List.all_eq_false]
 exact⟨b,List.mem_range.2 hb,by simp;omega⟩
theorem Jh(up:List M64)(h64:up.length≤64)(hin:∀i,i<up.length->InU up.length (upA up i)):Pure PG 115 [vU up] (vb (xZ up)) []:=by
 refine aD.mk (cfg 28) av [] Tryz.func115 Z (by kernel_rfl) Z Z Z ?_
 intro C x
 refine x.loop (α:={i:Nat // i≤up.length∧∀a b,a<i->b<a->0≤nT up (upA up a&&& upA up b)}) (λy=>⟨[(0,vU up),(6,vi (up.length:Int)),(7,vi (y.1:Int))],[],0⟩) (λy=>up.length-y.1) ⟨0,by omega,λa b ha=>by omega⟩ Z tR ⟨⟨au Z,Z,Z,tR⟩,tR,Z⟩ (λy=>?_)
 obtain⟨i,hi,hdone⟩:=y
 change Go C _ ⟨[(0,vU up),(6,vi (up.length:Int)),(7,vi (i:Int))],[],0⟩ _
 refine x.cond Z tR (λh1=>?_) (λh1=>?_)
 ·have h1:i<up.length:=by have:=afH h1;omega
  refine x.loop (α:={b:Nat // b≤i∧∀c,c<b->0≤nT up (upA up i&&& upA up c)}) (λz=>⟨[(0,vU up),(3,vi (i:Int)),(6,vi (up.length:Int)),(7,vi (i:Int)),(10,vi (i:Int)),(11,vi (z.1:Int))],[],0⟩) (λz=>i-z.1) ⟨0,by omega,λa ha=>by omega⟩ Z tR ⟨⟨au Z,Z,Z,Z,Z,Z,tR⟩,tR,Z⟩ (λz=>?_)
  obtain⟨b,hb,hd2⟩:=z
  change Go C _ ⟨[(0,vU up),(3,vi (i:Int)),(6,vi (up.length:Int)),(7,vi (i:Int)),(10,vi (i:Int)),(11,vi (b:Int))],[],0⟩ _
  refine x.cond Z tR (λh2=>?_) (λh2=>?_)
  ·have h2:b<i:=by have:=afH h2;omega
   refine x.quiet Z tR ay (by kernel_rfl) ?_
   refine x.lS Z ?_ Z (Qe up (upA up i&&& upA up b) (aak (hin i h1))) Z Z ⟨au Z,(show aB (.d (.int .u64 (bT .and .u64 ((upA up i).toNat:Int) ((upA up b).toNat:Int)))) (vm (upA up i&&& upA up b)) by rw[RZ];rfl),tR⟩ ?_
   ·simp only[ak];omega
   refine x.bS Z tR ?_
   refine x.cond Z tR (λh3=>?_) (λh3=>?_)
   ·refine x.exit Z tR ⟨.inr Z,?_,tR,Z⟩
    exact (Qg h1 h2 (afH h3)).symm
   ·have h3:=afI h3
    refine x.back Z ?_ ⟨⟨b+1,by omega,λc hc=>?_⟩,by show i-(b+1)<i-b;omega,⟨au Z,Z,Z,Z,Z,(show aB (vi ((b:Int)+1)) (vi ((b+1:Nat):Int)) by rw[afQ];rfl),tR⟩,tR,Z⟩
    ·simp only[ak,aj];omega
    ·by_cases e:c=b
     ·rw[e];omega
     ·exact hd2 c (by omega)
  ·have h2:b=i:=by have:=afI h2;omega
   subst h2
   refine x.back Z ?_ ⟨⟨b+1,by omega,λa c ha hc=>?_⟩,by show up.length-(b+1)<up.length-b;omega,⟨au Z,Z,(show aB (vi ((b:Int)+1)) (vi ((b+1:Nat):Int)) by rw[afQ];rfl),tR⟩,tR,Z⟩
   ·simp only[ak,aj];omega
   ·by_cases e:a=b
    ·subst e;exact hd2 c hc
    ·exact hdone a c (by omega) hc
 ·have h1:i=up.length:=by have:=afI h1;omega
  subst h1
  refine x.exit Z tR ⟨.inr Z,?_,tR,Z⟩
  show true=xZ up
  rw[eq_comm,xZ,List.all_eq_true]
  intro a ha
  rw[List.all_eq_true]
  intro b hb
  exact decide_eq_true (hdone a b (List.mem_range.1 ha) (List.mem_range.1 hb))
theorem Ib(up:List M64)(h64:up.length≤64)(hin:∀i,i<up.length->InU up.length (upA up i)):Pure PG 117 [vU up] (vU (fJ up)) []:=by
 have h:=Pure.froze (M9 up h64 hin)
 unfold vU dUp
 rw[pW]
 exact h
theorem DC(up:List M64)(hl:aj (up.length:Int)):Pure PG 70 [vU up] (vb (dW up)) []:=by
 refine aD.mk (cfg 16) av [] Tryz.func70 Z (by kernel_rfl) Z Z Z ?_
 intro C x
 refine x.pure Z tR Z (Qf up hl) ⟨au Z,tR⟩ ?_
 refine x.cond Z tR (λh=>?_) (λh=>?_)
 ·have h:(!dV up)=true:=h
  refine x.exit Z tR ⟨.inr Z,?_,tR,Z⟩
  show false=dW up
  rw[dW,show dV up=false by simpa using h];rfl
 have ho:dV up=true:=by
  have h:(!dV up)=false:=h
  simpa using h
 have h64:=(sG ho).2
 have hin:∀i,i<up.length->InU up.length (upA up i):=λi hi=>BZ ho hi
 have ht64:(fJ up).length≤64:=by rw[pW];exact h64
 refine x.pure Z tR Z (Jh up h64 hin) ⟨au Z,tR⟩ ?_
 refine x.bK Z tR Z (λ_=>Ib up h64 hin) Z ⟨au Z,tR⟩ ?_
 refine x.bK Z tR Z (λ_=>Jh (fJ up) ht64 λi hi=>Qd (by rw[←pW up];exact hi)) Z ⟨au Z,tR⟩ ?_
 refine x.exit Z tR ⟨.inr Z,?_,tR,Z⟩
 show aB (vb (xZ up&&xZ (fJ up))) (vb (dW up))
 rw[dW,ho];exact Z
def acE(ps:List (Nat×Nat)):D:=.sl 2 ps.length λi=>[.int .i64 ((ps.getD i (0,0)).1:Int),.int .i64 ((ps.getD i (0,0)).2:Int)]
abbrev Gq(ps:List (Nat×Nat)):V:=.d (acE ps)
def bI(ps:List (Nat×Nat))(r:Nat):M64:=ofP λj=>decide (j=r)||decide ((r,j)∈ps)
def Na(f:Nat->M64)(k i:Nat):Nat->M64:=λr=>if r=i then (if bit (f i) k then f i||| f k else f i) else f r
def yY(f:Nat->M64)(k:Nat):Nat->Nat->M64
 | 0=>f
 | i+1=>Na (yY f k i) k i
def sH(n:Nat)(f:Nat->M64):Nat->Nat->M64
 | 0=>f
 | k+1=>yY (sH n f k) k n
def closed(n:Nat)(ps:List (Nat×Nat)):Nat->M64:=sH n (bI ps) n
def iA(n:Nat)(ps:List (Nat×Nat)):List M64:=(List.range n).map (closed n ps)
theorem xq(n:Nat)(ps:List (Nat×Nat)):(iA n ps).length=n:=by simp [iA]
theorem Ya{n:Nat}{ps:List (Nat×Nat)}{i:Nat}(hi:i<n):upA (iA n ps) i=closed n ps i:=by
 unfold upA iA
 rw[afE,List.getElem?_map,List.getElem?_range hi];rfl
theorem Qh{i:Nat}(hi:i<64):wu 0#64 (i:Int)=one i:=Ae λj hj=>by
 rw[BU,uy hi]
 by_cases h:j=i
 ·subst h;simp [hj,bit]
 ·have:¬((j:Int)=(i:Int)):=by omega
  simp [h,this,bit]
theorem Nb{r:Nat}(hr:r<64):bI [] r=one r:=Ae λj hj=>by
 unfold bI
 rw[gW _ hj,uy hr]
 simp
theorem KA{ps:List (Nat×Nat)}{a b r:Nat}(hb:b<64):bI (ps++[(a,b)]) r=if r=a then wu (bI ps a) (b:Int) else bI ps r:=by
 refine Ae λj hj=>?_
 unfold bI
 rw[gW _ hj]
 split
 ·rename_i e
  subst e
  rw[BU,gW _ hj]
  by_cases h:j=b
  ·subst h;simp [hj]
  ·have:¬((j:Int)=(b:Int)):=by omega
   simp [h,this]
 ·rename_i e
  rw[gW _ hj]
  simp [e]
theorem Qi(n:Nat)(ps:List (Nat×Nat))(h1:1≤n)(h64:n≤64)(hps:∀p∈ps,p.1<n∧p.2<n)(hl:aj (ps.length:Int)) :
  Pure PG 41 [vi (n:Int),Gq ps] (.tup [vU (if dW (iA n ps) then iA n ps else []),vi (if dW (iA n ps) then 0 else 11)]) []:=by
 refine aD.mk (cfg 99) av [] Tryz.func41 Z (by kernel_rfl) Z Z Z ?_
 intro C x
 unfold aj at hl
 refine x.cond Z tR (λh=>?_) (λ_=>?_)
 ·have h:(decide ((n:Int)<1)||decide (64<(n:Int)))=true:=h
  simp only[Bool.or_eq_true,afL] at h
  omega
 refine x.loop (α:={i:Nat // i≤n}) (λy=>⟨[(0,vi (n:Int)),(1,Gq ps),(6,.own 0),(20,vi (n:Int)),(21,vi (y.1:Int))],[(0,Ca n λr=>if r<y.1 then one r else 0#64)],1⟩) (λy=>n-y.1) ⟨0,by omega⟩ Z ?_ ?_ (λy=>?_)
 ·simp only[ak,big,afT];omega
 ·refine⟨⟨Z,au Z,Z,Z,Z,tR⟩,⟨⟨Z,Z,afT _,λr hr=>?_⟩,tR⟩,Z⟩
  show [D.int .u64 0]=[dm (if r<0 then one r else 0#64)]
  rw[if_neg (by omega)];rfl
 obtain⟨i,hi⟩:=y
 change Go C _ ⟨[(0,vi (n:Int)),(1,Gq ps),(6,.own 0),(20,vi (n:Int)),(21,vi (i:Int))],[(0,Ca n λr=>if r<i then one r else 0#64)],1⟩ _
 refine x.cond Z tR (λh2=>?_) (λh2=>?_)
 ·have h2:i<n:=by have:=afH h2;omega
  refine x.pure Z tR Z (BS 0#64 i) ⟨Z,Z,tR⟩ ?_
  refine x.back Z ?_ ⟨⟨i+1,by omega⟩,by show n-(i+1)<n-i;omega,?_⟩
  ·simp only[ak,List.length,afT,aj];omega
  ·refine⟨⟨Z,au Z,Z,Z,(show aB (vi ((i:Int)+1)) (vi ((i+1:Nat):Int)) by rw[afQ];rfl),tR⟩,⟨⟨Z,Z,Z,λr hr=>?_⟩,tR⟩,Z⟩
   show Bg (λr=>[dm (if r<i then one r else 0#64)]) i 0 [dm (wu 0#64 (i:Int))] r=[dm (if r<i+1 then one r else 0#64)]
   rw[rW,Qh (by omega)]
   show [D.int .u64 (if r=i then _ else _)]=_
   by_cases e:r=i
   ·rw[if_pos e,if_pos (by omega),e]
   ·rw[if_neg e]
    by_cases e2:r<i
    ·rw[if_pos e2,if_pos (by omega)]
    ·rw[if_neg e2,if_neg (by omega)]
 have h2:i=n:=by have:=afI h2;omega
 subst h2
 refine x.loop (α:={j:Nat // j≤ps.length}) (λy=>⟨[(0,vi (i:Int)),(6,.own 0),(30,Gq ps),(31,vi (ps.length:Int)),(32,vi (y.1:Int))],[(0,Ca i λr=>bI (ps.take y.1) r)],1⟩) (λy=>ps.length-y.1) ⟨0,by omega⟩ Z tR ?_ (λy=>?_)
 ·refine⟨⟨Z,Z,au Z,Z,Z,tR⟩,⟨⟨Z,Z,Z,λr hr=>?_⟩,tR⟩,Z⟩
  show [dm (if r<i then one r else 0#64)]=[dm (bI [] r)]
  rw[if_pos hr,Nb (by omega)]
 obtain⟨j,hj⟩:=y
 change Go C _ ⟨[(0,vi (i:Int)),(6,.own 0),(30,Gq ps),(31,vi (ps.length:Int)),(32,vi (j:Int))],[(0,Ca i λr=>bI (ps.take j) r)],1⟩ _
 refine x.cond Z tR (λh3=>?_) (λh3=>?_)
 ·have h3:j<ps.length:=by have:=afH h3;omega
  have hgD:ps.getD j (0,0)=ps[j]:=by rw[afE,afG h3];rfl
  obtain⟨p1,p2⟩:=hps _ (List.getElem_mem h3)
  have hq:ps.getD j (0,0)∈ps:=by rw[hgD];exact List.getElem_mem h3
  obtain⟨p1,p2⟩:=hps _ hq
  refine x.cond Z ?_ (λh=>?_) (λ_=>?_)
  ·simp only[ak]
   exact⟨by omega,by decide,by decide,λ_=>by decide,λ_=>by decide,λ_=>by decide,λ_=>by decide,λ_=>by decide,λ_=>by decide⟩
  ·exfalso
   have h:(((decide (((ps.getD j (0,0)).1:Int)<0)||decide ((i:Int)≤((ps.getD j (0,0)).1:Int)))||decide (((ps.getD j (0,0)).2:Int)<0))||decide ((i:Int)≤((ps.getD j (0,0)).2:Int)))=true:=h
   simp only[Bool.or_eq_true,afL] at h
   omega
  refine x.plan [0,3] [1,2,4,5,6,7,8,9,10,11] [12] Z tR ay (by kernel_rfl) Ret.bP ?_
  refine x.lS Z ?_ Z (BS (bI (ps.take j) (ps.getD j (0,0)).1) (ps.getD j (0,0)).2) Z Z ⟨Z,Z,tR⟩ ?_
  ·simp only[ak,afT]
   exact⟨by decide,by decide,by decide,by decide,⟨by omega,by omega⟩,p1,by decide,by decide⟩
  refine x.bS Z (by simp only[ak,afT];omega) ?_
  refine x.back Z ?_ ⟨⟨j+1,by omega⟩,by show ps.length-(j+1)<ps.length-j;omega,?_⟩
  ·simp only[ak,List.length,afT,aj];omega
  ·refine⟨⟨Z,Z,au Z,Z,(show aB (vi ((j:Int)+1)) (vi ((j+1:Nat):Int)) by rw[afQ];rfl),tR⟩,⟨⟨Z,Z,Z,λr hr=>?_⟩,tR⟩,Z⟩
   show Bg (λr=>[dm (bI (ps.take j) r)]) (ps.getD j (0,0)).1 0 [dm (wu (bI (ps.take j) (ps.getD j (0,0)).1) ((ps.getD j (0,0)).2:Int))] r=[dm (bI (ps.take (j+1)) r)]
   have e:ps.take (j+1)=ps.take j++[((ps.getD j (0,0)).1,(ps.getD j (0,0)).2)]:=by rw[take_succ (a:=ps[j]) (afG h3),hgD]
   rw[rW,e,KA (by omega)]
   show [D.int .u64 (if r=_ then _ else _)]=[dm (if r=_ then _ else _)]
   split<;>rfl
 have h3:j=ps.length:=by have:=afI h3;omega
 refine x.loop (α:={k:Nat // k≤i}) (λy=>⟨[(0,vi (i:Int)),(6,.own 0),(69,vi (i:Int)),(70,vi (y.1:Int))],[(0,Ca i λr=>sH i (bI ps) y.1 r)],1⟩) (λy=>i-y.1) ⟨0,by omega⟩ Z tR ?_ (λy=>?_)
 ·refine⟨⟨Z,Z,Z,Z,tR⟩,⟨⟨Z,Z,Z,λr hr=>?_⟩,tR⟩,Z⟩
  show [dm (bI (ps.take j) r)]=[dm (bI ps r)]
  rw[h3,List.take_length]
 obtain⟨k,hk⟩:=y
 change Go C _ ⟨[(0,vi (i:Int)),(6,.own 0),(69,vi (i:Int)),(70,vi (k:Int))],[(0,Ca i λr=>sH i (bI ps) k r)],1⟩ _
 refine x.cond Z tR (λh4=>?_) (λh4=>?_)
 ·have h4:k<i:=by have:=afH h4;omega
  refine x.loop (α:={m:Nat // m≤i}) (λy=>⟨[(0,vi (i:Int)),(6,.own 0),(10,vi (k:Int)),(69,vi (i:Int)),(70,vi (k:Int)),(73,vi (i:Int)),(74,vi (y.1:Int))],[(0,Ca i λr=>yY (sH i (bI ps) k) k y.1 r)],1⟩) (λy=>i-y.1) ⟨0,by omega⟩ Z tR ?_ (λy=>?_)
  ·exact⟨⟨Z,Z,Z,Z,Z,Z,Z,tR⟩,⟨⟨Z,Z,Z,λr hr=>rfl⟩,tR⟩,Z⟩
  obtain⟨m,hm⟩:=y
  change Go C _ ⟨[(0,vi (i:Int)),(6,.own 0),(10,vi (k:Int)),(69,vi (i:Int)),(70,vi (k:Int)),(73,vi (i:Int)),(74,vi (m:Int))],[(0,Ca i λr=>yY (sH i (bI ps) k) k m r)],1⟩ _
  refine x.cond Z tR (λh5=>?_) (λh5=>?_)
  ·have h5:m<i:=by have:=afH h5;omega
   refine x.pure Z ?_ Z (Gl (yY (sH i (bI ps) k) k m m) k) ⟨Z,Z,tR⟩ ?_
   ·simp only[ak];omega
   refine x.cond Z tR (λh6=>?_) (λh6=>?_)
   ·have h6:H9 (yY (sH i (bI ps) k) k m m) (k:Int)=true:=h6
    rw[wo] at h6
    refine x.plan [0,1,4,5] [2,3,6,7,8,9] [10] Z tR ay (by kernel_rfl) Ret.bP ?_
    refine x.bS Z (by simp only[ak];omega) ?_
    refine x.back Z ?_ ⟨⟨m+1,by omega⟩,by show i-(m+1)<i-m;omega,?_⟩
    ·simp only[ak,List.length,afT,aj];omega
    ·refine⟨⟨Z,Z,Z,Z,Z,Z,(show aB (vi ((m:Int)+1)) (vi ((m+1:Nat):Int)) by rw[afQ];rfl),tR⟩,⟨⟨Z,Z,Z,λr hr=>?_⟩,tR⟩,Z⟩
     show Bg (λr=>[dm (yY (sH i (bI ps) k) k m r)]) m 0 [D.int .u64 (bT .or .u64 ((yY (sH i (bI ps) k) k m m).toNat:Int) ((yY (sH i (bI ps) k) k m k).toNat:Int))] r=[dm (Na (yY (sH i (bI ps) k) k m) k m r)]
     rw[rW,aah,Na,if_pos h6]
     show [D.int .u64 (if r=_ then _ else _)]=[dm (if r=_ then _ else _)]
     split<;>rfl
   ·have h6:H9 (yY (sH i (bI ps) k) k m m) (k:Int)=false:=h6
    rw[wo] at h6
    refine x.back Z ?_ ⟨⟨m+1,by omega⟩,by show i-(m+1)<i-m;omega,?_⟩
    ·simp only[ak,aj];omega
    ·refine⟨⟨Z,Z,Z,Z,Z,Z,(show aB (vi ((m:Int)+1)) (vi ((m+1:Nat):Int)) by rw[afQ];rfl),tR⟩,⟨⟨Z,Z,Z,λr hr=>?_⟩,tR⟩,Z⟩
     show [dm (yY (sH i (bI ps) k) k m r)]=[dm (Na (yY (sH i (bI ps) k) k m) k m r)]
     rw[Na,h6]
     split
     ·rename_i e;rw[e];rfl
     ·rfl
  ·have h5:m=i:=by have:=afI h5;omega
   refine x.back Z ?_ ⟨⟨k+1,by omega⟩,by show i-(k+1)<i-k;omega,?_⟩
   ·simp only[ak,aj];omega
   ·refine⟨⟨Z,Z,Z,(show aB (vi ((k:Int)+1)) (vi ((k+1:Nat):Int)) by rw[afQ];rfl),tR⟩,⟨⟨Z,Z,Z,λr hr=>?_⟩,tR⟩,Z⟩
    show [dm (yY (sH i (bI ps) k) k m r)]=[dm (yY (sH i (bI ps) k) k i r)]
    rw[h5]
 have h4:k=i:=by have:=afI h4;omega
 have hrow:∀r,r<i->[dm (sH i (bI ps) k r)]=[dm (upA (iA i ps) r)]:=λr hr=>by rw[Ya hr,closed,h4]
 have hR:Pure PG 70 [.d (.sl 1 i λr=>[dm (sH i (bI ps) k r)])] (vb (dW (iA i ps))) []:=by
  have h:=DC (iA i ps) (by rw[xq];unfold aj;omega)
  refine Pure.args (args:=[vU (iA i ps)]) h ⟨⟨(xq i ps).symm,λ_=>rfl,λr hr=>hrow r hr⟩,tR⟩ Z
 refine x.call [0] Z tR Z (Pure.borrow [Ca i λr=>sH i (bI ps) k r] hR (args:=[.own 0]) Z Z Z) Z ⟨Z,tR⟩ ⟨⟨Z,Z,Z,λ_ _=>rfl⟩,tR⟩ ?_
 refine x.cond Z tR (λh7=>?_) (λh7=>?_)
 ·have h7:(!dW (iA i ps))=true:=h7
  have h7:dW (iA i ps)=false:=by simpa using h7
  refine x.exit Z tR ⟨.inr Z,?_,tR,Z⟩
  rw[h7]
  exact⟨Z,Z,tR⟩
 ·have h7:(!dW (iA i ps))=false:=h7
  have h7:dW (iA i ps)=true:=by simpa using h7
  refine Sx.Go.freeze 0 ?_
  refine x.exit Z tR ⟨.inr Z,?_,tR,Z⟩
  rw[h7]
  refine⟨⟨(xq i ps).symm,λ_=>rfl,λr hr=>hrow r hr⟩,Z,tR⟩
theorem gX{α:Type}(d:α->List D)(N:Nat)(hd:∀a,(d a).length=N)(x0:α)(xs:List α)(x:α)(j:Nat)(hj:j<xs.length+1):app xs.length (λi=>d (xs.getD i x0)) (λ_=>d x) j=d ((xs++[x]).getD j x0):=by
 unfold app
 show cK (j<xs.length) (d (xs.getD j x0)) (d x)=_
 by_cases h:j<xs.length
 ·rw[Go.Sx.jy h,afE,afE,List.getElem?_append_left h]
 ·have e:j=xs.length:=by omega
  rw[Go.Sx.jA h,afE (l:=xs++[x]),List.getElem?_append_right (by omega),e,Nat.sub_self]
  rfl
structure Rdr where
 lev:List BY
 ins:List Chan
 outs:List Chan
 depth:Int
 flows:List (Nat×Nat)
abbrev Yb(l:List BY):Ch:=.vec 9 1 l.length λi=>[.str (l.getD i .empty)]
abbrev Ic(l:List Chan):Ch:=.vec 162 2 l.length λi=>[.str (l.getD i aL).1,.int .i64 (l.getD i aL).2]
abbrev Yc(l:List (Nat×Nat)):Ch:=.vec 180 2 l.length λi=>[.int .i64 ((l.getD i (0,0)).1:Int),.int .i64 ((l.getD i (0,0)).2:Int)]
abbrev Nc(k:Int):Ch:=.box [.own 1,.aF,.own 2,.own 3,vi k,.own 4]
abbrev rdH(r:Rdr):List Ch:=[Nc r.depth,Yb r.lev,Ic r.ins,Ic r.outs,Yc r.flows]
structure Small(r:Rdr):Prop where
 lev:r.lev.length≤64
 ins:r.ins.length≤32
 outs:r.outs.length≤32
 flows:r.flows.length≤100000
 depth:aj r.depth
theorem Small.i64{r:Rdr}(h:Small r):aj (r.lev.length:Int)∧aj (r.ins.length:Int)∧aj (r.outs.length:Int)∧aj (r.flows.length:Int):=by
 have h1:=h.lev
 have h2:=h.ins
 have h3:=h.outs
 have h4:=h.flows
 unfold aj;omega
def w_(w:List BY)(k:Nat):BY:=w.getD k .empty
theorem acF{ops:Array Oper}{g:Cfg}{rs:List ResultVar}{ids:List Nat}{r:V}{H':List Ch}:q9 ops (Ret g rs ids r H'):=gD.quiet (o:=.ret r H')
theorem eT{k:Int}:mE (Nc k) ((Nc k).map (bZ [0,1,2,3,4])):=⟨Z,tR,Z,Z,Z,Z,tR⟩
theorem aJ{e:TypeId}{sz n:Nat}{f:Nat->List D}{is:List Nat}:mE (.vec e sz n f) ((Ch.vec e sz n f).map (bZ is)):=⟨Z,Z,Z,λ_ _=>rfl⟩
def pX(r:Rdr)(w:List BY):Rdr×Int:=
 if 0≤bE r.lev (w_ w 0) then (r,9) else if r.lev.length=64 then (r,3) else ({r with lev:=r.lev++[w_ w 0]},0)
theorem Nf(r:Rdr)(w:List BY)(hr:Small r)(hw:1≤w.length):aD PG 134 1 [.ptr 0 0,vSs w] (rdH r) (vi (pX r w).2) (rdH (pX r w).1):=by
 obtain⟨i1,i2,i3,i4⟩:=hr.i64
 refine aD.mk (dM 40 1) av [0,1,2,3,4] Tryz.func134 Z (by kernel_rfl) Z Z (by
  simp only[pX];split<;>(try split)<;>rfl) ?_
 intro C x
 refine x.quiet Z tR ay (by kernel_rfl) ?_
 refine x.yJ Z ?_ Z (jM r.lev (w_ w 0) i1) Z Z ⟨⟨ah Z,Z,Z,Z,Z,tR⟩,Z,tR⟩ ?_
 ·simp only[ak];omega
 refine x.bS Z tR ?_
 refine x.cond Z tR (λh1=>?_) (λh1=>?_)
 ·have h1:0≤bE r.lev (w_ w 0):=afH h1
  refine x.exit Z tR ?_
  rw[pX,if_pos h1]
  exact⟨.inr Z,Z,⟨eT,aJ,aJ,aJ,aJ,tR⟩,Z⟩
 have h1:¬0≤bE r.lev (w_ w 0):=afI h1
 refine x.cond Z tR (λh2=>?_) (λh2=>?_)
 ·have h2:r.lev.length=64:=by have:=afH h2;omega
  refine x.exit Z tR ?_
  rw[pX,if_neg h1,if_pos h2]
  exact⟨.inr Z,Z,⟨eT,aJ,aJ,aJ,aJ,tR⟩,Z⟩
 have h2:¬r.lev.length=64:=by have:=afI h2;omega
 refine x.draw [] [0,1,6] [2,3,4,5] [7,8,9] [10,11,12,13,14] Z tR ay (by kernel_rfl) acF Z tR (λC1 x1=>?_)
 refine x1.back Z ?_ ?_
 ·simp only[ak];omega
 refine x1.back Z tR ?_
 refine x1.back Z tR ?_
 have aal:=hr.lev
 refine x.exit Z (by simp only[ak,big];omega) ?_
 rw[pX,if_neg h1,if_neg h2]
 exact⟨.inr Z,Z,⟨eT,⟨Z,Z,by simp,λj hj=>gX (λt=>[D.str t]) 1 (λ_=>rfl) .empty r.lev (w_ w 0) j hj⟩,aJ,aJ,aJ,tR⟩,Z⟩
def x9(r:Rdr)(w:List BY):Rdr×Int:=
 if 0≤bE r.lev (w_ w 0)∧0≤bE r.lev (w_ w 1) then ({r with flows:=r.flows++[((bE r.lev (w_ w 0)).toNat,(bE r.lev (w_ w 1)).toNat)]},0) else (r,10)
theorem Yd{k:Int}(h:0≤k):(if 0 > k then 0 else k)=((k.toNat:Nat):Int):=by rw[if_neg (by omega)];omega
theorem Qj(r:Rdr)(w:List BY)(hr:Small r)(hw:2≤w.length):aD PG 135 1 [.ptr 0 0,vSs w] (rdH r) (vi (x9 r w).2) (rdH (x9 r w).1):=by
 obtain⟨i1,i2,i3,i4⟩:=hr.i64
 refine aD.mk (dM 49 1) av [0,1,2,3,4] Tryz.func135 Z (by kernel_rfl) Z Z (by
  simp only[x9];split<;>rfl) ?_
 intro C x
 refine x.quiet Z tR ay (by kernel_rfl) ?_
 refine x.yJ Z ?_ Z (jM r.lev (w_ w 0) i1) Z Z ⟨⟨ah Z,Z,Z,Z,Z,tR⟩,Z,tR⟩ ?_
 ·simp only[ak];omega
 refine x.bS Z tR ?_
 refine x.quiet Z tR ay (by kernel_rfl) ?_
 refine x.yJ Z ?_ Z (jM r.lev (w_ w 1) i1) Z Z ⟨⟨ah Z,Z,Z,Z,Z,tR⟩,Z,tR⟩ ?_
 ·simp only[ak];omega
 refine x.bS Z tR ?_
 refine x.cond Z tR (λh1=>?_) (λh1=>?_)
 ·have h1:(!decide (0≤bE r.lev (w_ w 0))||!decide (0≤bE r.lev (w_ w 1)))=true:=h1
  have h1:¬(0≤bE r.lev (w_ w 0)∧0≤bE r.lev (w_ w 1)):=λ⟨a,b⟩=>by rw[decide_eq_true a,decide_eq_true b] at h1;cases h1
  refine x.exit Z tR ?_
  rw[x9,if_neg h1]
  exact⟨.inr Z,Z,⟨eT,aJ,aJ,aJ,aJ,tR⟩,Z⟩
 have h1:(!decide (0≤bE r.lev (w_ w 0))||!decide (0≤bE r.lev (w_ w 1)))=false:=h1
 simp only[afU,Bool.not_eq_false',afL] at h1
 have hfl:=hr.flows
 refine x.exit Z (by simp only[ak,big];omega) ?_
 rw[x9,if_pos h1]
 refine⟨.inr Z,Z,⟨eT,aJ,aJ,aJ,⟨Z,Z,by simp,λj hj=>?_⟩,tR⟩,Z⟩
 have:=gX (λt:Nat×Nat=>[D.int .i64 (t.1:Int),D.int .i64 (t.2:Int)]) 2 (λ_=>rfl) (0,0) r.flows ((bE r.lev (w_ w 0)).toNat,(bE r.lev (w_ w 1)).toNat) j hj
 refine Eq.trans ?_ this
 show app _ _ (λ_=>[D.int .i64 (if 0 > bE r.lev (w_ w 0) then 0 else bE r.lev (w_ w 0)),D.int .i64 (if 0 > bE r.lev (w_ w 1) then 0 else bE r.lev (w_ w 1))]) j=_
 rw[Yd h1.1,Yd h1.2]
def mh(lev:List BY)(l:List Chan)(w:List BY):Int:=
 if 0≤eY l (w_ w 0) then 9 else if ¬0≤bE lev (w_ w 1) then 10 else if l.length=32 then 3 else 0
def kK(lev:List BY)(l:List Chan)(w:List BY):List Chan:=if mh lev l w=0 then l++[(w_ w 0,bE lev (w_ w 1))] else l
theorem Ng(r:Rdr)(w:List BY)(hr:Small r)(hw:2≤w.length):aD PG 176 1 [.ptr 0 0,.ptr 0 2,vSs w] (rdH r) (vi (mh r.lev r.ins w)) (rdH {r with ins:=kK r.lev r.ins w}):=by
 obtain⟨i1,i2,i3,i4⟩:=hr.i64
 refine aD.mk (dM 52 1) av [0,1,2,3,4] Tryz.func176 Z (by kernel_rfl) Z Z Z ?_
 intro C x
 refine x.quiet Z tR ay (by kernel_rfl) ?_
 refine x.yJ Z ?_ Z (pV r.ins (w_ w 0) i2) Z Z ⟨au Z,Z,Z,tR⟩ ?_
 ·simp only[ak];omega
 refine x.bS Z tR ?_
 refine x.cond Z tR (λh1=>?_) (λh1=>?_)
 ·have h1:0≤eY r.ins (w_ w 0):=afH h1
  refine x.exit Z tR ?_
  rw[kK,mh,if_pos h1,if_neg (by decide)]
  exact⟨.inr Z,Z,⟨eT,aJ,aJ,aJ,aJ,tR⟩,Z⟩
 have h1:¬0≤eY r.ins (w_ w 0):=afI h1
 refine x.quiet Z tR ay (by kernel_rfl) ?_
 refine x.yJ Z ?_ Z (jM r.lev (w_ w 1) i1) Z Z ⟨⟨ah Z,Z,Z,Z,Z,tR⟩,Z,tR⟩ ?_
 ·simp only[ak];omega
 refine x.bS Z tR ?_
 refine x.cond Z tR (λh2=>?_) (λh2=>?_)
 ·have h2:(!decide (0≤bE r.lev (w_ w 1)))=true:=h2
  have h2:¬0≤bE r.lev (w_ w 1):=λa=>by rw[decide_eq_true a] at h2;cases h2
  refine x.exit Z tR ?_
  rw[kK,mh,if_neg h1,if_pos h2,if_neg (by decide)]
  exact⟨.inr Z,Z,⟨eT,aJ,aJ,aJ,aJ,tR⟩,Z⟩
 have h2:(!decide (0≤bE r.lev (w_ w 1)))=false:=h2
 have h2:0≤bE r.lev (w_ w 1):=by simpa using h2
 refine x.cond Z tR (λh3=>?_) (λh3=>?_)
 ·have h3:r.ins.length=32:=by have:=afH h3;omega
  refine x.exit Z tR ?_
  rw[kK,mh,if_neg h1,if_neg (λh=>h h2),if_pos h3,if_neg (by decide)]
  exact⟨.inr Z,Z,⟨eT,aJ,aJ,aJ,aJ,tR⟩,Z⟩
 have h3:¬r.ins.length=32:=by have:=afI h3;omega
 have hlen:=hr.ins
 refine x.draw [] [0,1,4,7] [2,3] [5,6,8,9] [10,11,12] Z tR ay (by kernel_rfl) acF Z tR (λC1 x1=>?_)
 refine x1.back Z ?_ ?_
 ·simp only[ak];omega
 refine x1.back Z tR ?_
 refine x1.back Z tR ?_
 refine x1.back Z tR ?_
 refine x.exit Z (by simp only[ak,big];omega) ?_
 rw[kK,mh,if_neg h1,if_neg (λh=>h h2),if_neg h3,if_pos rfl]
 refine⟨.inr Z,Z,⟨eT,aJ,⟨Z,Z,by simp,λj hj=>?_⟩,aJ,aJ,tR⟩,Z⟩
 have:=gX (λt:Chan=>[D.str t.1,D.int .i64 t.2]) 2 (λ_=>rfl) aL r.ins (w_ w 0,bE r.lev (w_ w 1)) j hj
 refine Eq.trans ?_ this
 show app _ _ (λ_=>[D.str (w_ w 0),D.int .i64 (if 0 > bE r.lev (w_ w 1) then 0 else bE r.lev (w_ w 1))]) j=_
 rw[if_neg (by omega)]
theorem Nh(r:Rdr)(w:List BY)(hr:Small r)(hw:2≤w.length):aD PG 136 1 [.ptr 0 0,vSs w] (rdH r) (vi (mh r.lev r.ins w)) (rdH {r with ins:=kK r.lev r.ins w}):=by
 refine aD.mk (dM 12 1) av [0,1,2,3,4] Tryz.func136 Z (by kernel_rfl) Z Z Z ?_
 intro C x
 refine x.call [0,1,2,3,4] Z tR Z (Ng r w hr hw) Z ⟨⟨Z,Z⟩,⟨Z,Z⟩,au Z,tR⟩ ⟨eT,aJ,aJ,aJ,aJ,tR⟩ ?_
 exact x.exit Z tR ⟨.inr Z,Z,⟨eT,aJ,aJ,aJ,aJ,tR⟩,Z⟩
theorem Ni(r:Rdr)(w:List BY)(hr:Small r)(hw:2≤w.length):aD PG 176 1 [.ptr 0 0,.ptr 0 3,vSs w] (rdH r) (vi (mh r.lev r.outs w)) (rdH {r with outs:=kK r.lev r.outs w}):=by
 obtain⟨i1,i2,i3,i4⟩:=hr.i64
 refine aD.mk (dM 52 1) av [0,1,2,3,4] Tryz.func176 Z (by kernel_rfl) Z Z Z ?_
 intro C x
 refine x.quiet Z tR ay (by kernel_rfl) ?_
 refine x.yJ Z ?_ Z (pV r.outs (w_ w 0) i3) Z Z ⟨au Z,Z,Z,tR⟩ ?_
 ·simp only[ak];omega
 refine x.bS Z tR ?_
 refine x.cond Z tR (λh1=>?_) (λh1=>?_)
 ·have h1:0≤eY r.outs (w_ w 0):=afH h1
  refine x.exit Z tR ?_
  rw[kK,mh,if_pos h1,if_neg (by decide)]
  exact⟨.inr Z,Z,⟨eT,aJ,aJ,aJ,aJ,tR⟩,Z⟩
 have h1:¬0≤eY r.outs (w_ w 0):=afI h1
 refine x.quiet Z tR ay (by kernel_rfl) ?_
 refine x.yJ Z ?_ Z (jM r.lev (w_ w 1) i1) Z Z ⟨⟨ah Z,Z,Z,Z,Z,tR⟩,Z,tR⟩ ?_
 ·simp only[ak];omega
 refine x.bS Z tR ?_
 refine x.cond Z tR (λh2=>?_) (λh2=>?_)
 ·have h2:(!decide (0≤bE r.lev (w_ w 1)))=true:=h2
  have h2:¬0≤bE r.lev (w_ w 1):=λa=>by rw[decide_eq_true a] at h2;cases h2
  refine x.exit Z tR ?_
  rw[kK,mh,if_neg h1,if_pos h2,if_neg (by decide)]
  exact⟨.inr Z,Z,⟨eT,aJ,aJ,aJ,aJ,tR⟩,Z⟩
 have h2:(!decide (0≤bE r.lev (w_ w 1)))=false:=h2
 have h2:0≤bE r.lev (w_ w 1):=by simpa using h2
 refine x.cond Z tR (λh3=>?_) (λh3=>?_)
 ·have h3:r.outs.length=32:=by have:=afH h3;omega
  refine x.exit Z tR ?_
  rw[kK,mh,if_neg h1,if_neg (λh=>h h2),if_pos h3,if_neg (by decide)]
  exact⟨.inr Z,Z,⟨eT,aJ,aJ,aJ,aJ,tR⟩,Z⟩
 have h3:¬r.outs.length=32:=by have:=afI h3;omega
 have hlen:=hr.outs
 refine x.draw [] [0,1,4,7] [2,3] [5,6,8,9] [10,11,12] Z tR ay (by kernel_rfl) acF Z tR (λC1 x1=>?_)
 refine x1.back Z ?_ ?_
 ·simp only[ak];omega
 refine x1.back Z tR ?_
 refine x1.back Z tR ?_
 refine x1.back Z tR ?_
 refine x.exit Z (by simp only[ak,big];omega) ?_
 rw[kK,mh,if_neg h1,if_neg (λh=>h h2),if_neg h3,if_pos rfl]
 refine⟨.inr Z,Z,⟨eT,aJ,aJ,⟨Z,Z,by simp,λj hj=>?_⟩,aJ,tR⟩,Z⟩
 have:=gX (λt:Chan=>[D.str t.1,D.int .i64 t.2]) 2 (λ_=>rfl) aL r.outs (w_ w 0,bE r.lev (w_ w 1)) j hj
 refine Eq.trans ?_ this
 show app _ _ (λ_=>[D.str (w_ w 0),D.int .i64 (if 0 > bE r.lev (w_ w 1) then 0 else bE r.lev (w_ w 1))]) j=_
 rw[if_neg (by omega)]
theorem KC(r:Rdr)(w:List BY)(hr:Small r)(hw:2≤w.length):aD PG 137 1 [.ptr 0 0,vSs w] (rdH r) (vi (mh r.lev r.outs w)) (rdH {r with outs:=kK r.lev r.outs w}):=by
 refine aD.mk (dM 12 1) av [0,1,2,3,4] Tryz.func137 Z (by kernel_rfl) Z Z Z ?_
 intro C x
 refine x.call [0,1,2,3,4] Z tR Z (Ni r w hr hw) Z ⟨⟨Z,Z⟩,⟨Z,Z⟩,au Z,tR⟩ ⟨eT,aJ,aJ,aJ,aJ,tR⟩ ?_
 exact x.exit Z tR ⟨.inr Z,Z,⟨eT,aJ,aJ,aJ,aJ,tR⟩,Z⟩
def pY(r:Rdr)(w:List BY):Rdr×Int:=
 if 0<r.depth then (r,9) else if (fF (w_ w 0)).1<1∨64<(fF (w_ w 0)).1 then (r,12) else ({r with depth:=(fF (w_ w 0)).1},0)
theorem Nj(r:Rdr)(w:List BY)(hr:Small r)(hw:1≤w.length):aD PG 138 1 [.ptr 0 0,vSs w] (rdH r) (vi (pY r w).2) (rdH (pY r w).1):=by
 refine aD.mk (dM 31 1) av [0,1,2,3,4] Tryz.func138 Z (by kernel_rfl) Z Z (by
  simp only[pY];split<;>(try split)<;>rfl) ?_
 intro C x
 refine x.cond Z tR (λh1=>?_) (λh1=>?_)
 ·have h1:0<r.depth:=afH h1
  refine x.exit Z tR ?_
  rw[pY,if_pos h1]
  exact⟨.inr Z,Z,⟨eT,aJ,aJ,aJ,aJ,tR⟩,Z⟩
 have h1:¬0<r.depth:=afI h1
 refine x.pure Z ?_ Z (nK (w_ w 0)) ⟨Z,tR⟩ ?_
 ·simp only[ak];omega
 refine x.cond Z tR (λh2=>?_) (λh2=>?_)
 ·have h2:(decide ((fF (w_ w 0)).1<1)||decide (64<(fF (w_ w 0)).1))=true:=h2
  simp only[Bool.or_eq_true,afL] at h2
  refine x.exit Z tR ?_
  rw[pY,if_neg h1,if_pos h2]
  exact⟨.inr Z,Z,⟨eT,aJ,aJ,aJ,aJ,tR⟩,Z⟩
 ·have h2:(decide ((fF (w_ w 0)).1<1)||decide (64<(fF (w_ w 0)).1))=false:=h2
  have h2:¬((fF (w_ w 0)).1<1∨64<(fF (w_ w 0)).1):=by
   simp only[afU,afP] at h2
   omega
  refine x.exit Z tR ?_
  rw[pY,if_neg h1,if_neg h2]
  exact⟨.inr Z,Z,⟨eT,aJ,aJ,aJ,aJ,tR⟩,Z⟩
def uD:List UInt8:=[108,101,118,101,108]
def Af:List UInt8:=[102,108,111,119]
def uE:List UInt8:=[105,110,112,117,116]
def ou:List UInt8:=[111,117,116,112,117,116]
def kr:List UInt8:=[100,101,112,116,104]
abbrev kdV(f:Nat)(n:Int):V:=.agg [.fn f [],vi n]
def Gs:List (Key×V):=[(.inl [108,101,118,101,108],kdV 134 1),(.inl [102,108,111,119],kdV 135 2),(.inl [105,110,112,117,116],kdV 136 2),(.inl [111,117,116,112,117,116],kdV 137 2),(.inl [100,101,112,116,104],kdV 138 1)]
theorem Gt:Pure PG 83 [] (.own 0) [.tbl Gs]:=by
 refine aD.mk (cfg 8) av [0] Tryz.func83 Z (by kernel_rfl) Z Z Z ?_
 intro C x
 refine x.exit Z ?_ ?_
 ·simp only[ak,tu]
  decide
 ·exact⟨.inr Z,Z,⟨⟨Z,Z,Z,Z,Z,Z,Z,Z,Z,Z,tR⟩,tR⟩,Z⟩
def okW(w0 s:BY):Bool:=!((decide (w0.data.toList=kr)&&!(fF s).2)||(!decide (w0.data.toList=kr)&&!gF s))
theorem UU(r:Rdr)(w:List BY)(hw:1≤w.length)(hk:dN (.inl (w_ w 0).data.toList) Gs=none):aD PG 39 1 [.ptr 0 0,vSs w] (rdH r) (vi 8) (rdH r):=by
 refine aD.mk (dM 64 1) av [0,1,2,3,4] Tryz.func39 Z (by kernel_rfl) Z Z Z ?_
 intro C x
 refine x.rz [] [1,2,3] (mkO [(0,[]),(4,[0]),(5,[]),(6,[4,5])] 5 [])
  ⟨[(0,.ptr 0 0),(1,vSs w),(5,.ptr 6 0)],[(6,.box [.d .nf,vi 0])],7⟩ Z tR ay (by kernel_rfl) Ret.bP Z ?_ (λC2 x2=>?_) ?_
 ·simp only[ak];omega
 ·repeat' first
   | exact True.intro
   | refine And.intro ?_ ?_
   | refine x2.back rfl tR ?_
   | refine x2.call [] rfl tR rfl Gt rfl tR tR (x2.back rfl tR ?_)
   | refine x2.look rfl tR rfl (aci hk ?_)
   | exact .inl ⟨⟨⟨rfl,rfl⟩,au rfl,⟨rfl,rfl⟩,tR⟩,⟨⟨tR,rfl,tR⟩,tR⟩,rfl⟩
   | exact .inr ⟨[0,1,2,3,4,6,5],rfl,⟨⟨rfl,rfl⟩,au rfl,⟨rfl,rfl⟩,tR⟩,⟨⟨tR,rfl,tR⟩,tR⟩,rfl⟩
 refine x.cond rfl (by simp only[ak];intro h;cases h) (λh1=>?_) (λh1=>by cases h1)
 exact x.exit Z tR ⟨.inr Z,Z,⟨eT,aJ,aJ,aJ,aJ,tR⟩,Z⟩
def yZ(w:List BY):Bool:=w.tail.all (okW (w_ w 0))
theorem Ye(w:List BY)(i:Nat):w.getD (i+1) .empty=w.tail.getD i .empty:=by
 cases w<;>simp
theorem R4(w:List BY):VEq (.d (.sl 1 ((w.length:Int).toNat-Int.toNat 1) λk=>(λi=>[D.str (w.getD i .empty)]) (Int.toNat 1+k))) (vSs w.tail):=
 ⟨by rw[List.length_tail,afT];rfl,λ_=>rfl,λi _=>by
  show [D.str (w.getD (1+i) .empty)]=[D.str (w.tail.getD i .empty)]
  rw[Nat.add_comm,Ye]⟩
theorem sI(r r':Rdr)(e:Int)(w:List BY)(hw:1≤w.length)(hwl:aj (w.length:Int))(hsz:∀s∈w,s.size≤9223372036854775807)(f:Nat)(n:Int)(hn:1≤n∧n≤2)(hk:dN (.inl (w_ w 0).data.toList) Gs=some (kdV f n))
  (hdo:((w.length:Int)=n+1∧yZ w=true)->aD PG f 1 [.ptr 0 0,vSs w.tail] (rdH r) (vi e) (rdH r')) :
  aD PG 39 1 [.ptr 0 0,vSs w] (rdH r) (vi (if (w.length:Int)=n+1∧yZ w=true then e else 8)) (rdH (if (w.length:Int)=n+1∧yZ w=true then r' else r)):=by
 refine aD.mk (dM 64 1) av [0,1,2,3,4] Tryz.func39 Z (by kernel_rfl) Z Z (by split<;>rfl) ?_
 intro C x
 unfold aj at hwl
 refine x.rz [] [1,2,3] (mkO [(0,[]),(4,[0]),(5,[]),(6,[4,5])] 5 [])
  ⟨[(0,.ptr 0 0),(1,vSs w),(5,.ptr 6 0)],[(6,.box [.fn f [],vi n])],7⟩ Z tR ay (by kernel_rfl) Ret.bP Z ?_ (λC2 x2=>?_) ?_
 ·simp only[ak];omega
 ·repeat' first
    | exact True.intro
    | refine And.intro ?_ ?_
    | refine x2.back rfl tR ?_
    | refine x2.call [] rfl tR rfl Gt rfl tR tR (x2.back rfl tR ?_)
    | refine x2.look rfl tR rfl (ach hk ?_)
    | exact .inl ⟨⟨⟨rfl,rfl⟩,au rfl,⟨rfl,rfl⟩,tR⟩,⟨⟨rfl,rfl,tR⟩,tR⟩,rfl⟩
    | exact .inr ⟨[0,1,2,3,4,6,5],rfl,⟨⟨rfl,rfl⟩,au rfl,⟨rfl,rfl⟩,tR⟩,⟨⟨rfl,rfl,tR⟩,tR⟩,rfl⟩
 refine x.cond Z (by simp only[ak,aj];intro _;omega) (λh1=>?_) (λh1=>?_)
 ·have h1:(false||!decide ((w.length:Int)=n+1))=true:=h1
  have h1:¬(w.length:Int)=n+1:=by simpa using h1
  rw[if_neg (λh=>h1 h.1),if_neg (λh=>h1 h.1)]
  exact x.exit Z tR ⟨.inr Z,Z,⟨eT,aJ,aJ,aJ,aJ,tR⟩,Z⟩
 have h1:(false||!decide ((w.length:Int)=n+1))=false:=h1
 have h1:(w.length:Int)=n+1:=by simpa using h1
 have htl:w.tail.length=w.length-1:=List.length_tail
 refine x.loop (α:={i:Nat // i≤w.tail.length∧∀j,j<i->okW (w_ w 0) (w.tail.getD j .empty)=true}) (λy=>⟨[(0,.ptr 0 0),(1,vSs w),(5,.ptr 6 0),(27,vSs w.tail),(28,vi (w.tail.length:Int)),(29,vi (y.1:Int))],[(0,Nc r.depth),(1,Yb r.lev),(2,Ic r.ins),(3,Ic r.outs),(4,Yc r.flows),(6,.box [.fn f [],vi n])],7⟩) (λy=>w.tail.length-y.1) ⟨0,by omega,λj hj=>by omega⟩ Z ?_ ?_ (λy=>?_)
 ·simp only[ak];omega
 ·refine⟨⟨⟨Z,Z⟩,au Z,⟨Z,Z⟩,R4 w,(show aB (vi (((w.length:Int).toNat-Int.toNat 1:Nat):Int)) (vi (w.tail.length:Int)) by rw[List.length_tail,afT];rfl),Z,tR⟩,⟨⟨Z,tR,Z,Z,Z,Z,tR⟩,⟨Z,Z,Z,λ_ _=>rfl⟩,⟨Z,Z,Z,λ_ _=>rfl⟩,⟨Z,Z,Z,λ_ _=>rfl⟩,⟨Z,Z,Z,λ_ _=>rfl⟩,⟨Z,Z,tR⟩,tR⟩,Z⟩
 obtain⟨i,hi,hok⟩:=y
 change Go C _ ⟨[(0,.ptr 0 0),(1,vSs w),(5,.ptr 6 0),(27,vSs w.tail),(28,vi (w.tail.length:Int)),(29,vi (i:Int))],[(0,Nc r.depth),(1,Yb r.lev),(2,Ic r.ins),(3,Ic r.outs),(4,Yc r.flows),(6,.box [.fn f [],vi n])],7⟩ _
 refine x.cond Z tR (λh2=>?_) (λh2=>?_)
 ·have h2:i<w.tail.length:=by have:=afH h2;omega
  have hmem:w.tail.getD i .empty∈w:=by
   rw[afE,afG h2]
   exact List.mem_of_mem_tail (List.getElem_mem h2)
  refine x.pure Z ?_ Z (nK (w.tail.getD i .empty)) ⟨Z,tR⟩ ?_
  ·simp only[ak];omega
  refine x.bK Z ?_ Z (λ_ _=>yV (w.tail.getD i .empty) (hsz _ hmem)) Z ⟨Z,tR⟩ ?_
  ·simp only[ak]
   exact⟨by omega,λ_=>by omega⟩
  refine x.cond Z tR (λh3=>?_) (λh3=>?_)
  ·have h3:((decide ((w_ w 0).data.toList=kr)&&!(fF (w.tail.getD i .empty)).2)||(!decide ((w_ w 0).data.toList=kr)&&!gF (w.tail.getD i .empty)))=true:=h3
   have hno:¬((w.length:Int)=n+1∧yZ w=true):=λ⟨_,h⟩=>by
    have:=List.all_eq_true.1 h _ (show w.tail.getD i .empty∈w.tail by rw[afE,afG h2];exact List.getElem_mem h2)
    rw[okW,h3] at this
    cases this
   rw[if_neg hno,if_neg hno]
   exact x.exit Z tR ⟨.inr Z,Z,⟨eT,aJ,aJ,aJ,aJ,tR⟩,Z⟩
  ·have h3:((decide ((w_ w 0).data.toList=kr)&&!(fF (w.tail.getD i .empty)).2)||(!decide ((w_ w 0).data.toList=kr)&&!gF (w.tail.getD i .empty)))=false:=h3
   refine x.back Z ?_ ⟨⟨i+1,by omega,λj hj=>?_⟩,by show w.tail.length-(i+1)<w.tail.length-i;omega,⟨⟨Z,Z⟩,au Z,⟨Z,Z⟩,au Z,Z,(show aB (vi ((i:Int)+1)) (vi ((i+1:Nat):Int)) by rw[afQ];rfl),tR⟩,⟨⟨Z,tR,Z,Z,Z,Z,tR⟩,⟨Z,Z,Z,λ_ _=>rfl⟩,⟨Z,Z,Z,λ_ _=>rfl⟩,⟨Z,Z,Z,λ_ _=>rfl⟩,⟨Z,Z,Z,λ_ _=>rfl⟩,⟨Z,Z,tR⟩,tR⟩,Z⟩
   ·simp only[ak,aj];omega
   ·by_cases e:j=i
    ·rw[e,okW,h3];rfl
    ·exact hok j (by omega)
 ·have h2:i=w.tail.length:=by have:=afI h2;omega
  have hall:yZ w=true:=by
   unfold yZ
   rw[List.all_eq_true]
   intro s hs
   obtain⟨k,hk,rfl⟩:=List.getElem_of_mem hs
   have:=hok k (by omega)
   rwa [afE,afG hk] at this
  rw[if_pos ⟨h1,hall⟩,if_pos ⟨h1,hall⟩]
  refine x.plan [2,3] [0,1,4] [5,6] Z tR ay (by kernel_rfl) Ret.bP ?_
  refine x.bS Z ?_ ?_
  ·simp only[ak];omega
  refine x.call [0,1,2,3,4] Z tR Z (hdo ⟨h1,hall⟩) Z ⟨⟨Z,Z⟩,R4 w,tR⟩ ⟨eT,aJ,aJ,aJ,aJ,tR⟩ ?_
  exact x.exit Z tR ⟨.inr Z,Z,⟨eT,aJ,aJ,aJ,aJ,tR⟩,Z⟩
def uR(r:Rdr)(w:List BY)(n:Nat)(d:Rdr×Int):Rdr×Int:=if w.length=n+1∧yZ w=true then d else (r,8)
def nO(r:Rdr)(w:List BY):Rdr×Int:=
 if (w_ w 0).data.toList=uD then uR r w 1 (pX r w.tail)
 else if (w_ w 0).data.toList=Af then uR r w 2 (x9 r w.tail)
 else if (w_ w 0).data.toList=uE then uR r w 2 ({r with ins:=kK r.lev r.ins w.tail},mh r.lev r.ins w.tail)
 else if (w_ w 0).data.toList=ou then uR r w 2 ({r with outs:=kK r.lev r.outs w.tail},mh r.lev r.outs w.tail)
 else if (w_ w 0).data.toList=kr then uR r w 1 (pY r w.tail)
 else (r,8)
theorem UW(k:List UInt8):dN (.inl k) Gs =
  if k=uD then some (kdV 134 1) else if k=Af then some (kdV 135 2) else if k=uE then some (kdV 136 2) else if k=ou then some (kdV 137 2) else if k=kr then some (kdV 138 1) else none:=by
 unfold Gs
 simp only[dN,qE,uD,Af,uE,ou,kr]
 by_cases h1:k=[108,101,118,101,108]
 ·simp [h1]
 by_cases h2:k=[102,108,111,119]
 ·simp [h2]
 by_cases h3:k=[105,110,112,117,116]
 ·simp [h3]
 by_cases h4:k=[111,117,116,112,117,116]
 ·simp [h4]
 by_cases h5:k=[100,101,112,116,104]
 ·simp [h5]
 simp [h1,h2,h3,h4,h5]
theorem Ag{r:Rdr}{w:List BY}{n:Nat}{d:Rdr×Int}{f:Nat}
  (h:aD PG f 1 [.ptr 0 0,vSs w] (rdH r) (vi (if (w.length:Int)=(n:Int)+1∧yZ w=true then d.2 else 8)) (rdH (if (w.length:Int)=(n:Int)+1∧yZ w=true then d.1 else r))) :
  aD PG f 1 [.ptr 0 0,vSs w] (rdH r) (vi (uR r w n d).2) (rdH (uR r w n d).1):=by
 unfold uR
 have e:((w.length:Int)=(n:Int)+1∧yZ w=true)↔(w.length=n+1∧yZ w=true):=by
  constructor
  ·rintro ⟨a,b⟩;exact⟨by omega,b⟩
  ·rintro ⟨a,b⟩;exact⟨by omega,b⟩
 by_cases hc:w.length=n+1∧yZ w=true
 ·rw[if_pos (e.2 hc),if_pos (e.2 hc)] at h
  rw[if_pos hc];exact h
 ·rw[if_neg (λx=>hc (e.1 x)),if_neg (λx=>hc (e.1 x))] at h
  rw[if_neg hc];exact h
theorem UY(r:Rdr)(hr:Small r)(w:List BY)(hw:1≤w.length)(hwl:aj (w.length:Int))(hsz:∀s∈w,s.size≤9223372036854775807):aD PG 39 1 [.ptr 0 0,vSs w] (rdH r) (vi (nO r w).2) (rdH (nO r w).1):=by
 have htl:w.tail.length=w.length-1:=List.length_tail
 have hk:=UW (w_ w 0).data.toList
 unfold nO
 by_cases e1:(w_ w 0).data.toList=uD
 ·rw[if_pos e1] at hk ⊢
  exact Ag (sI r (pX r w.tail).1 (pX r w.tail).2 w hw hwl hsz _ _ (by omega) hk λhc=>Nf r w.tail hr (by omega))
 rw[if_neg e1] at hk ⊢
 by_cases e2:(w_ w 0).data.toList=Af
 ·rw[if_pos e2] at hk ⊢
  exact Ag (sI r (x9 r w.tail).1 (x9 r w.tail).2 w hw hwl hsz _ _ (by omega) hk λhc=>Qj r w.tail hr (by omega))
 rw[if_neg e2] at hk ⊢
 by_cases e3:(w_ w 0).data.toList=uE
 ·rw[if_pos e3] at hk ⊢
  exact Ag (sI r {r with ins:=kK r.lev r.ins w.tail} (mh r.lev r.ins w.tail) w hw hwl hsz _ _ (by omega) hk λhc=>Nh r w.tail hr (by omega))
 rw[if_neg e3] at hk ⊢
 by_cases e4:(w_ w 0).data.toList=ou
 ·rw[if_pos e4] at hk ⊢
  exact Ag (sI r {r with outs:=kK r.lev r.outs w.tail} (mh r.lev r.outs w.tail) w hw hwl hsz _ _ (by omega) hk λhc=>KC r w.tail hr (by omega))
 rw[if_neg e4] at hk ⊢
 by_cases e5:(w_ w 0).data.toList=kr
 ·rw[if_pos e5] at hk ⊢
  exact Ag (sI r (pY r w.tail).1 (pY r w.tail).2 w hw hwl hsz _ _ (by omega) hk λhc=>Nj r w.tail hr (by omega))
 rw[if_neg e5] at hk ⊢
 exact UU r w hw hk
structure Kept(r:Rdr)(n:Nat):Prop extends Small r where
 count:r.flows.length≤n
 flow:∀p∈r.flows,p.1<r.lev.length∧p.2<r.lev.length
theorem Ah{l:List BY}{s:BY}(h:0≤bE l s):(bE l s).toNat<l.length:=by
 unfold bE at *
 rcases yU (p:=λi=>decide ((l.getD i .empty).data.toList=s.data.toList)) (n:=l.length) (i:=0) with e | e<;>omega
theorem Ji{r:Rdr}{n:Nat}(h:Kept r n)(hn:n<100000)(w:List BY):Kept (nO r w).1 (n+1):=by
 obtain⟨⟨h1,h2,h3,h4,h5⟩,h6,h7⟩:=h
 have same:Kept r (n+1):=⟨⟨h1,h2,h3,h4,h5⟩,by omega,h7⟩
 have pick:∀{k d},Kept d.1 (n+1)->Kept (uR r w k d).1 (n+1):=λ{k d} hd=>by
  unfold uR;split
  ·exact hd
  ·exact same
 have chan:∀l:List Chan,l.length≤32->(kK r.lev l w.tail).length≤32:=λl hl=>by
  unfold kK
  split
  ·rename_i h0
   unfold mh at h0
   split at h0
   ·omega
   ·split at h0
    ·omega
    ·split at h0
     ·omega
     ·simp;omega
  ·exact hl
 unfold nO
 split
 ·refine pick ?_
  unfold pX
  split
  ·exact same
  ·split
   ·exact same
   ·refine⟨⟨by simp;omega,h2,h3,h4,h5⟩,Nat.le_succ_of_le h6,λp hp=>?_⟩
    have:=h7 p hp
    simp;omega
 split
 ·refine pick ?_
  unfold x9
  split
  ·rename_i hc
   refine⟨⟨h1,h2,h3,by simp;omega,h5⟩,by simp;omega,λp hp=>?_⟩
   rcases List.mem_append.1 hp with hp | hp
   ·exact h7 p hp
   ·rw[List.mem_singleton.1 hp]
    exact⟨Ah hc.1,Ah hc.2⟩
  ·exact same
 split
 ·exact pick ⟨⟨h1,chan _ h2,h3,h4,h5⟩,Nat.le_succ_of_le h6,h7⟩
 split
 ·exact pick ⟨⟨h1,h2,chan _ h3,h4,h5⟩,Nat.le_succ_of_le h6,h7⟩
 split
 ·refine pick ?_
  unfold pY
  split
  ·exact same
  ·split
   ·exact same
   ·rename_i hd
    exact⟨⟨h1,h2,h3,h4,by unfold aj;show -9223372036854775808≤(fF _).1∧(fF _).1≤_;omega⟩,Nat.le_succ_of_le h6,h7⟩
 ·exact same
theorem Qk(c:Int):Pure PG 38 [.d (.int .i32 c)] (vb (decide (c=32)||decide (c=9))) []:=by
 refine aD.mk (cfg 9) av [] Tryz.func38 Z (by kernel_rfl) Z Z Z ?_
 intro C x
 exact x.exit Z tR ⟨.inr Z,Z,tR,Z⟩
def nl:BY:=⟨#[10]⟩
def dH(s:BY):List BY:=Lib.splitB nl 0 (Lib.countB s nl) s
theorem Jj{F:Nat->Prop}{w:World}(h:jv PG.env F w):∃m,w.cell? ⟨0,0,none⟩=some (.int .i64 m):=
 (h 0 0 (λ_=>undef) (by unfold PG;simp)).2.2 Z
theorem Jk(s:BY):(dH s).length=Lib.countB s nl+1:=Lib.splitB_all nl (by decide) 0 _ s Z
theorem Ql(s:BY)(hs:s.size<4294967281):Pure PG 36 [vs s,vs nl] (vSs (dH s)) []:=by
 refine Pure.acf (vals:=[.string s,.string nl]) (jF Tryz.func36 (by kernel_rfl) (by kernel_rfl)) Z Z Z λw F hE=>?_
 obtain⟨m,hm⟩:=Jj hE
 refine (Tryz.strings_Split s nl m w hs hm (by decide)).mono ?_
 rintro e w' ⟨rfl,rfl⟩
 refine⟨_,Z,(Go.RowKit.Below.refl _ w).alloc (Nat.le_refl _) _,?_⟩
 rw[←Jk]
 have hnew:(w.alloc (.cells ((dH s).map Value.string).toArray 9)).heap[w.heap.size]?=some (.cells ((dH s).map Value.string).toArray 9):=World.alloc_heap_new w _
 refine .sl 1 _ _ w.heap.size 0 _ (λi _=>.string ((dH s).getD i .empty)) ⟨Nat.le_refl _,by simp⟩ (Nat.le_refl _) (λi j hi hj=>?_) (λ_ _=>rfl) (λi j d hi hd=>?_)
 ·unfold World.cell?
  show (match (w.alloc (.cells ((dH s).map Value.string).toArray 9)).heap[w.heap.size]? with | some (.cells c _ _)=>_ | _=>_)=_
  rw[hnew]
  obtain rfl:j=0:=by omega
  simp [afG hi,afE]
 ·cases j with
  | zero=>simp at hd;subst hd;exact .str _
  | succ j=>simp at hd
theorem index_spec(s sub:BY)(hs:s.size<4294967281):Pure PG 40 [vs s,vs sub] (vi (Lib.index s.data.toList sub.data.toList)) []:=by
 refine Pure.Xc (vals:=[.string s,.string sub]) (jF Tryz.func40 (by kernel_rfl) (by kernel_rfl)) Z Z Z Z λw F hE=>?_
 obtain⟨m,hm⟩:=Jj hE
 refine (Tryz.strings_Index s sub m w hs hm).mono ?_
 rintro e w' ⟨rfl,rfl⟩
 exact⟨Z,Go.RowKit.Below.refl _ _⟩
def acG:Go.Shelf.Ren:=⟨fun | 229=>37 | n=>n,fun | 0=>0 | 3=>3 | 4=>4 | 9=>9 | 21=>21 | 31=>22 | 40=>97 | 152=>168 | 154=>170 | n=>n,fun | n=>n⟩
theorem lays229:Go.Proofs.Lays.n229 Tryz.prog acG:={
 mixed:=by kernel_rfl
 f229:=Tryz.func37.trans (congrArg some (by kernel_rfl))
 t0:=Tryz.underlying0
 a0:=Tryz.isAgg0
 z0:=Tryz.sizeOf0
 v0:=Tryz.zeroValue0
 t3:=Tryz.underlying3
 a3:=Tryz.isAgg3
 z3:=Tryz.sizeOf3
 v3:=Tryz.zeroValue3
 t4:=Tryz.underlying4
 a4:=Tryz.isAgg4
 z4:=Tryz.sizeOf4
 v4:=Tryz.zeroValue4
 t9:=Tryz.underlying9
 a9:=Tryz.isAgg9
 z9:=Tryz.sizeOf9
 v9:=Tryz.zeroValue9
 t21:=Tryz.underlying21
 a21:=Tryz.isAgg21
 z21:=Tryz.sizeOf21
 v21:=Tryz.zeroValue21
 t31:=Tryz.underlying22
 a31:=Tryz.isAgg22
 z31:=Tryz.sizeOf22
 v31:=Tryz.zeroValue22
 t40:=Tryz.underlying97
 a40:=Tryz.isAgg97
 z40:=Tryz.sizeOf97
 v40:=Tryz.zeroValue97
 t152:=Tryz.underlying168
 a152:=Tryz.isAgg168
 z152:=Tryz.sizeOf168
 v152:=Tryz.zeroValue168
 t154:=Tryz.underlying170
 a154:=Tryz.isAgg170
 z154:=Tryz.sizeOf170
 v154:=Tryz.zeroValue170}
def KD(c:Nat):Bool:=decide ((c:Int)=32)||decide ((c:Int)=9)
def bg(s:BY):List BY:=Lib.goFieldsP KD s
theorem Nk(w:World)(F:Nat->Prop)(hF:∀k,F k->k<w.heap.size)(hE:jv PG.env F w):PredGrows Tryz.prog 38 #[] KD w:=by
 intro W x _ hb
 obtain⟨_,_,_,_,_,hc⟩:=Qk (x:Int)
 have hE':jv PG.env F W:=hE.mono (λ_ h=>h) λk hk=>hb.block k (hF k hk)
 refine (hc W F (λ_=>.bool true) [.int .i32 (x:Int)] (λk hk=>Nat.lt_of_lt_of_le (hF k hk) hb.size) hE' ⟨λi c hc=>by simp at hc,λi j b hi=>absurd hi (afN _),λi b hi=>absurd hi (afN _)⟩ ⟨RD.int _ _,tR⟩).mono ?_
 intro e w' hp
 refine⟨?_,hp.below⟩
 obtain⟨v,ρ',F',rfl,_,_,_,_,_,hr,_⟩:=hp
 cases (show RD F' w' (.bool _) v from hr)
 rfl
theorem Nl(s:BY)(hs:s.size≤4294967296):Pure PG 37 [vs s,.fn 38 []] (vSs (bg s)) []:=by
 refine⟨jF Tryz.func37 (by kernel_rfl) (by kernel_rfl),Z,Z,Nat.le_refl _,Nat.le_refl _,λw F ρ ys hF hE hH hargs=>?_⟩
 match ys,hargs with
 | [y1,y2],⟨h1,⟨cs,h2,hcs⟩,_⟩=>
  cases (show RD F w (.str s) y1 from h1)
  have hcs0:cs=[]:=by cases cs with
   | nil=>rfl
   | cons _ _=>exact hcs.elim
  subst hcs0
  subst h2
  have hcall:iN Tryz.prog 38:=jF Tryz.func38 (by kernel_rfl) (by kernel_rfl)
  refine (Any.strings_FieldsFunc_grows lays229 38 #[] (λargs w=>zU hcall args w) KD s w hs (Nk w F hF hE) (by kernel_rfl) (by kernel_rfl)).mono ?_
  rintro e w' ⟨A,rfl,hA,hown,hb⟩
  have hAlt:0<(bg s).length->A<w'.heap.size:=λh0=>by
   rcases hown.2 with⟨h,_⟩ | ⟨g,cap,cur,h3,_,h4,_⟩
   ·simp at h
   ·simp only[Value.slice.injEq,afJ,Addr.mk.injEq] at h3
    obtain⟨⟨rfl,_⟩,_⟩:=h3
    exact (Array.getElem?_eq_some_iff.1 h4).1
  have hown0:w'.ownsRow 0 9 1 (.slice (some ⟨A,0,none⟩) (bg s).length (bg s).length) (bg s).length ((bg s).map Value.string):=by
   refine⟨hown.1,?_⟩
   rcases hown.2 with h | ⟨g,cap,cur,h3,_,h4⟩
   ·exact .inl h
   ·exact .inr ⟨g,cap,cur,h3,Nat.zero_le _,h4⟩
  obtain⟨b1,b2,b3,b4,b5⟩:=hb
  by_cases h0:0<(bg s).length
  ·refine⟨_,ρ,λk=>F k∨(w.heap.size≤k∧k<w'.heap.size),Z,⟨b1,b2,b3,b4,λk hk _=>b5 k hk⟩,λ_ _=>rfl,λ_ hk=>.inl hk,λk hk=>?_,λk hk=>?_,zV (ρ:=ρ) (F:=F) (λ_=>.inl) (λb hb=>?_) hown0 (λi hi=>⟨Z,λj d hd=>?_⟩),⟨λi c hi=>by simp at hi,λi j b hi=>absurd hi (afN _),λi b hi=>absurd hi (afN _)⟩,λi b hi=>absurd hi (afN _)⟩
   ·rcases hk with hk | hk
    ·exact Nat.lt_of_lt_of_le (hF k hk) b4
    ·exact hk.2
   ·rcases hk with hk | hk
    ·exact .inl hk
    ·exact .inr (.inl hk.1)
   ·simp only[blk,afJ] at hb
    subst hb
    exact .inr ⟨hA,hAlt h0⟩
   ·cases j with
    | succ j=>simp at hd
    | zero=>
     simp only[List.getElem?_cons_zero,afJ] at hd
     subst hd
     refine⟨.string ((bg s).getD i .empty),?_,.str _⟩
     simp [afG hi,afE]
  ·have h1:(bg s).length=0:=by omega
   refine⟨_,ρ,F,Z,⟨b1,b2,b3,b4,λk hk _=>b5 k hk⟩,λ_ _=>rfl,λ_ hk=>hk,λk hk=>Nat.lt_of_lt_of_le (hF k hk) b4,λ_ hk=>.inl hk,?_,⟨λi c hi=>by simp at hi,λi j b hi=>absurd hi (afN _),λi b hi=>absurd hi (afN _)⟩,λi b hi=>absurd hi (afN _)⟩
   show RD F w' (.sl 1 (bg s).length _) (.slice _ (bg s).length (bg s).length)
   rw[h1]
   exact .emp _ _ _ _
 | [],h=>exact h.elim
 | [_],h=>exact h.2.elim
 | _::_::_::_,h=>exact h.2.2.elim
end Go.Proofs.YtojhdmfkfkfcbaaGreatDoor
