import Derived.Test.YtojhdmfkfkfcbaaGreatDoorMB
import Derived.Test.YtojhdmfkfkfcbaaGreatDoorSxG
set_option maxHeartbeats 1000000000
set_option linter.unusedSimpArgs false
set_option linter.unusedVariables false
namespace Go.Proofs.YtojhdmfkfkfcbaaGreatDoor
open Go.Sx
set_option maxRecDepth 100000
abbrev iC4(x:Ins):Ch:=.box [.d (.int .u8 x.kind),.d (.int .u8 x.op),vs x.dst,vs x.ref,vs x.alt,.own 4,.own 5,vi x.num,vi x.at_]
abbrev HP4(s:BY)(l:List Tok)(n c:Nat)(x:Ins):List Ch:=[pC s l n c,iC4 x,.box [.ptr 1 0],.box [.ptr 0 0],iw x.args,iw x.frm]
def dY(s:BY)(l:List Tok)(n:Nat)(b:UInt8):Except (Int×Int) (Nat×Unit):=if (txV s l n).data.toList=[b] then .ok (n+1,()) else .error (atV s l n,7)
def sj(s:BY)(l:List Tok)(n:Nat)(x:Ins):Except (Int×Int) (Nat×Ins):=
 bnd (nmV s l n) λn f=>bnd (dY s l n 58) λn _=>bnd (nmV s l n) λn a=>.ok (n,{x with frm:=x.frm++[f],args:=x.args++[a]})
def ae0(s:BY)(l:List Tok)(c:Nat):Except (Int×Int) (Nat×Ins)->Out
 | .ok (n,x)=>.ret (.tup []) (HP4 s l n c x)
 | .error (a,e)=>xJ a e
section
variable(s:BY)(l:List Tok)(n c:Nat)(hl:qz s l)(hn:n≤l.length)(y:Ins)(hy:y.args.length≤1000)(hy2:y.frm.length≤1000)
include hl hn hy hy2 in
theorem UE:aX PG 214 4 [.ptr 2 0,.ptr 3 0] (HP4 s l n c y) (ae0 s l c (sj s l n y)):=by
 have hll:=hl.2.1
 refine aX.mk (dM 26 4) av [0,1,2,3,4,5] Tryz.func214 rfl (by kernel_rfl) rfl rfl (by rcases sj s l n y with⟨a,e⟩ | ⟨n',x'⟩<;>rfl) ?_
 intro C x
 have h1:=aY s l n c hl (by omega)
 cases e1:isV l n 1 with
 | false=>
  rw[e1,if_neg (by simp)] at h1
  refine x.Rx [0,1,4,5] 4 [0,5] [0] [1,2,3,4,5] [6,7] [8,9,10,11] Z tR ay (by kernel_rfl) gD.quiet Z Z tR Z tR (λC1 C2 x1 x2=>?_)
  refine x1.die [0] Z tR Z h1 ⟨⟨Z,Z⟩,tR⟩ Z ⟨⟨Z,ah Z,Z,Z,tR⟩,tR⟩ ⟨⟨_,Z⟩,Z,⟨_,Z⟩,Z,?_⟩
  simp only[sj,nmV,bnd,e1,if_true,afS,if_false]
  exact⟨Z,Z⟩
 | true=>
  rw[e1,if_pos rfl] at h1
  have l1:=dB e1
  refine x.Rx [0,1,4,5] 4 [0,5] [0] [1,2,3,4,5] [6,7] [8,9,10,11] Z tR ay (by kernel_rfl) gD.quiet Z Z tR Z tR (λC1 C2 x1 x2=>?_)
  refine x1.call [0] Z tR Z h1 Z ⟨⟨Z,Z⟩,tR⟩ ⟨⟨Z,ah Z,Z,Z,tR⟩,tR⟩ ?_
  refine x1.back Z tR ?_
  refine x1.back Z tR ?_
  refine x2.back Z (by simp only[ak,big];omega) ?_
  refine x2.back Z tR ?_
  refine x2.back Z tR ?_
  refine x2.back Z tR ?_
  have h2:=jk s l (n+1) c hl (by omega) ⟨#[58]⟩
  by_cases e2:(txV s l (n+1)).data.toList=[58]
  ·rw[if_pos e2] at h2
   have l2:=jI e2
   refine x.call [0] Z tR Z h2 Z ⟨⟨Z,Z⟩,Z,tR⟩ ⟨⟨Z,ah Z,Z,Z,tR⟩,tR⟩ ?_
   have h3:=aY s l (n+1+1) c hl (by omega)
   cases e3:isV l (n+1+1) 1 with
   | false=>
    rw[e3,if_neg (by simp)] at h3
    refine x.Rx [0,1,4,5,6] 4 [0] [0] [1,2,3,4,5] [6,7] [8,9,10,11] Z tR ay (by kernel_rfl) gD.quiet Z Z tR Z tR (λC1 C2 x1 x2=>?_)
    refine x1.die [0] Z tR Z h3 ⟨⟨Z,Z⟩,tR⟩ Z ⟨⟨Z,ah Z,Z,Z,tR⟩,tR⟩ ⟨⟨_,Z⟩,Z,⟨_,Z⟩,Z,?_⟩
    simp only[sj,dY,nmV,bnd,e1,e2,e3,if_true,afS,if_false]
    exact⟨Z,Z⟩
   | true=>
    rw[e3,if_pos rfl] at h3
    refine x.Rx [0,1,4,5,6] 4 [0] [0] [1,2,3,4,5] [6,7] [8,9,10,11] Z tR ay (by kernel_rfl) gD.quiet Z Z tR Z tR (λC1 C2 x1 x2=>?_)
    refine x1.call [0] Z tR Z h3 Z ⟨⟨Z,Z⟩,tR⟩ ⟨⟨Z,ah Z,Z,Z,tR⟩,tR⟩ ?_
    refine x1.back Z tR ?_
    refine x1.back Z tR ?_
    refine x2.back Z (by simp only[ak,big];omega) ?_
    refine x2.back Z tR ?_
    refine x2.back Z tR ?_
    refine x2.back Z tR ?_
    refine x.exit Z tR ?_
    simp only[sj,dY,nmV,bnd,e1,e2,e3,if_true]
    exact⟨.inl Z,tR,⟨⟨Z,ah Z,Z,Z,tR⟩,⟨Z,Z,Z,Z,Z,Z,Z,Z,Z,tR⟩,⟨⟨Z,Z⟩,tR⟩,⟨⟨Z,Z⟩,tR⟩,⟨Z,Z,len1 _ _,λj hj=>jr _ _ j hj⟩,⟨Z,Z,len1 _ _,λj hj=>jr _ _ j hj⟩,tR⟩,Z⟩
  ·rw[if_neg e2] at h2
   refine x.die [0] Z tR Z h2 ⟨⟨Z,Z⟩,Z,tR⟩ Z ⟨⟨Z,ah Z,Z,Z,tR⟩,tR⟩ ?_
   simp only[sj,dY,nmV,bnd,e1,e2,if_true,if_false]
   exact⟨Z,Z⟩
end
theorem MN{s:BY}{l:List Tok}{n:Nat}{x:Ins}{n':Nat}{x':Ins}(h:sj s l n x=.ok (n',x')):n<n'∧n'≤l.length∧isV l n 1=true∧x'.args.length=x.args.length+1∧x'.frm.length=x.frm.length+1:=by
 unfold sj nmV dY at h
 by_cases e1:isV l n 1=true
 ·simp only[e1,if_true,bnd] at h
  by_cases e2:(txV s l (n+1)).data.toList=[58]
  ·simp only[e2,if_true] at h
   by_cases e3:isV l (n+1+1) 1=true
   ·simp only[e3,if_true,Except.ok.injEq,afO] at h
    obtain⟨rfl,rfl⟩:=h
    have:=dB e3
    exact⟨by omega,by omega,e1,by simp,by simp⟩
   ·simp [e3] at h
  ·simp [e2] at h
 ·simp [e1,bnd] at h
def l7(s:BY)(l:List Tok):Nat->Nat->Nat->Ins->Except (Int×Int) (Nat×Ins)
 | 0,_,_,_=>.error (0,0)
 | f+1,n,k,x=>
  if isV l n 1=true∧64≤k then .error (atV s l n,3)
  else bnd (sj s l n x) λn x=>if (txV s l n).data.toList=[44] then l7 s l f (n+1) (k+1) x else .ok (n,x)
structure PW (s:BY) (l:List Tok) (R:Except (Int×Int) (Nat×Ins)) where
 f:Nat
 n:Nat
 k:Nat
 x:Ins
 hf:l.length+1≤f+n
 hn:n≤l.length
 hk:k≤64
 ha:x.args.length≤100+k
 hb:x.frm.length≤100+k
 same:l7 s l f n k x=R
section
variable(s:BY)(l:List Tok)(n c:Nat)(hl:qz s l)(hn:n≤l.length)(y:Ins)(hy:y.args.length≤100)(hy2:y.frm.length≤100)
include hl hn hy hy2 in
theorem PV:aX PG 150 4 [.ptr 0 0,vi 64,.fn 214 [.ptr 2 0,.ptr 3 0]] (HP4 s l n c y) (ae0 s l c (l7 s l (l.length+1) n 0 y)):=by
 obtain⟨R,hR⟩:∃R,l7 s l (l.length+1) n 0 y=R:=⟨_,Z⟩
 rw[hR]
 have hll:=hl.2.1
 refine aX.mk (dM 27 4) av [0,1,2,3,4,5] Tryz.func150 rfl (by kernel_rfl) rfl rfl (by rcases R with⟨a,e⟩ | ⟨n,o⟩<;>rfl) ?_
 intro C x
 refine x.loop (α:=PW s l R) (λy=>⟨[(0,.ptr 0 0),(1,vi 64),(2,.fn 214 [.ptr 2 0,.ptr 3 0]),(6,vi (y.k:Int))],[(0,pC s l y.n c),(1,iC4 y.x),(2,.box [.ptr 1 0]),(3,.box [.ptr 0 0]),(4,iw y.x.args),(5,iw y.x.frm)],6⟩) (λy=>y.f) ⟨l.length+1,n,0,y,by omega,by omega,by omega,by omega,by omega,hR⟩ Z tR ⟨⟨⟨Z,Z⟩,Z,Z,Z,tR⟩,⟨⟨Z,ah Z,Z,Z,tR⟩,⟨Z,Z,Z,Z,Z,Z,Z,Z,Z,tR⟩,⟨⟨Z,Z⟩,tR⟩,⟨⟨Z,Z⟩,tR⟩,⟨Z,Z,Z,λ_ _=>rfl⟩,⟨Z,Z,Z,λ_ _=>rfl⟩,tR⟩,Z⟩ (λy=>?_)
 obtain⟨f,n,k,y,hf,hn,hk,ha,hb,same⟩:=y
 change Go C _ ⟨[(0,.ptr 0 0),(1,vi 64),(2,.fn 214 [.ptr 2 0,.ptr 3 0]),(6,vi (k:Int))],[(0,pC s l n c),(1,iC4 y),(2,.box [.ptr 1 0]),(3,.box [.ptr 0 0]),(4,iw y.args),(5,iw y.frm)],6⟩ _
 obtain⟨f,rfl⟩:∃f',f=f'+1:=⟨f-1,by omega⟩
 rw[l7] at same
 refine x.call [0] Z tR Z (gN s l n c 1) Z ⟨⟨Z,Z⟩,Z,tR⟩ ⟨⟨Z,ah Z,Z,Z,tR⟩,tR⟩ ?_
 have h1:=UE s l n c hl hn y (by omega) (by omega)
 obtain⟨V,hV⟩:∃V,sj s l n y=V:=⟨_,Z⟩
 have bad:isV l n 1=false->V=.error (atV s l n,7):=λe=>by rw[←hV,sj,nmV,e];rfl
 rw[hV] at h1 same
 refine x.cond Z tR (λh=>?_) (λh=>?_)
 ·have h:isV l n 1=true:=h
  have h2:=oL s l n c (by omega) (k:Int) 64
  by_cases h3:64≤k
  ·rw[if_pos ⟨h,h3⟩] at same
   rw[if_pos (by omega)] at h2
   exact x.die [0] Z tR Z h2 ⟨⟨Z,Z⟩,Z,Z,tR⟩ Z ⟨⟨Z,ah Z,Z,Z,tR⟩,tR⟩ (by rw[←same];exact⟨Z,Z⟩)
  ·rw[if_neg (λhh=>h3 hh.2)] at same
   rw[if_neg (by omega)] at h2
   refine x.call [0] Z tR Z h2 Z ⟨⟨Z,Z⟩,Z,Z,tR⟩ ⟨⟨Z,ah Z,Z,Z,tR⟩,tR⟩ ?_
   rcases V with⟨a,e⟩ | ⟨n',y'⟩
   ·exact x.die [0,1,2,3,4,5] Z tR Z h1 ⟨⟨Z,Z⟩,⟨Z,Z⟩,tR⟩ Z ⟨⟨Z,ah Z,Z,Z,tR⟩,⟨Z,Z,Z,Z,Z,Z,Z,Z,Z,tR⟩,⟨⟨Z,Z⟩,tR⟩,⟨⟨Z,Z⟩,tR⟩,⟨Z,Z,Z,λ_ _=>rfl⟩,⟨Z,Z,Z,λ_ _=>rfl⟩,tR⟩ (by rw[←same];exact⟨Z,Z⟩)
   ·obtain⟨p1,p2,_,p4,p5⟩:=MN hV
    simp only[bnd] at same
    refine x.call [0,1,2,3,4,5] Z tR Z h1 Z ⟨⟨Z,Z⟩,⟨Z,Z⟩,tR⟩ ⟨⟨Z,ah Z,Z,Z,tR⟩,⟨Z,Z,Z,Z,Z,Z,Z,Z,Z,tR⟩,⟨⟨Z,Z⟩,tR⟩,⟨⟨Z,Z⟩,tR⟩,⟨Z,Z,Z,λ_ _=>rfl⟩,⟨Z,Z,Z,λ_ _=>rfl⟩,tR⟩ ?_
    refine x.call [0] Z tR Z (dG s l n' c hl (by omega) 0 (by omega)) Z ⟨⟨Z,Z⟩,Z,tR⟩ ⟨⟨Z,ah Z,Z,Z,tR⟩,tR⟩ ?_
    refine x.cond Z tR (λh4=>?_) (λh4=>?_)
    ·have h4:(!decide ((txV s l n').data.toList=[44]))=true:=h4
     rw[if_neg (by simpa using h4)] at same
     refine x.exit Z tR ?_
     rw[←same]
     exact⟨.inr Z,tR,⟨⟨Z,ah Z,Z,Z,tR⟩,⟨Z,Z,Z,Z,Z,Z,Z,Z,Z,tR⟩,⟨⟨Z,Z⟩,tR⟩,⟨⟨Z,Z⟩,tR⟩,⟨Z,Z,Z,λ_ _=>rfl⟩,⟨Z,Z,Z,λ_ _=>rfl⟩,tR⟩,Z⟩
    ·have h4:(!decide ((txV s l n').data.toList=[44]))=false:=h4
     have h5:(txV s l n').data.toList=[44]:=by simpa using h4
     have h6:=jI h5
     rw[if_pos h5] at same
     refine x.back Z ?_ ⟨⟨f,n'+1,k+1,y',by omega,by omega,by omega,by omega,by omega,same⟩,by show f<f+1;omega,⟨⟨Z,Z⟩,Z,Z,?_,tR⟩,⟨⟨Z,ah Z,?_,Z,tR⟩,⟨Z,Z,Z,Z,Z,Z,Z,Z,Z,tR⟩,⟨⟨Z,Z⟩,tR⟩,⟨⟨Z,Z⟩,tR⟩,⟨Z,Z,Z,λ_ _=>rfl⟩,⟨Z,Z,Z,λ_ _=>rfl⟩,tR⟩,Z⟩
     ·simp only[ak,aj];omega
     ·show aB (vi ((k:Int)+1)) (vi ((k+1:Nat):Int));rw[afQ];rfl
     ·show aB (vi ((n':Int)+1)) (vi ((n'+1:Nat):Int));rw[afQ];rfl
 ·have h:isV l n 1=false:=h
  have hb:=bad h
  subst hb
  rw[if_neg (λhh=>by rw[h] at hh;exact absurd hh.1 (by simp))] at same
  exact x.die [0,1,2,3,4,5] Z tR Z h1 ⟨⟨Z,Z⟩,⟨Z,Z⟩,tR⟩ Z ⟨⟨Z,ah Z,Z,Z,tR⟩,⟨Z,Z,Z,Z,Z,Z,Z,Z,Z,tR⟩,⟨⟨Z,Z⟩,tR⟩,⟨⟨Z,Z⟩,tR⟩,⟨Z,Z,Z,λ_ _=>rfl⟩,⟨Z,Z,Z,λ_ _=>rfl⟩,tR⟩ (by rw[←same];exact⟨Z,Z⟩)
end
theorem BL{s:BY}{l:List Tok}:∀{f n k:Nat} {x:Ins} {n':Nat} {x':Ins},l7 s l f n k x=.ok (n',x')->n<n'∧n'≤l.length
 | 0,n,k,x,n',x',h=>by simp [l7] at h
 | f+1,n,k,x,n',x',h=>by
  rw[l7] at h
  split at h
  ·cases h
  ·obtain⟨V,hV⟩:∃V,sj s l n x=V:=⟨_,Z⟩
   rw[hV] at h
   rcases V with⟨a,e⟩ | ⟨n1,x1⟩
   ·cases h
   ·obtain⟨p1,p2,_⟩:=MN hV
    simp only[bnd] at h
    split at h
    ·obtain⟨q1,q2⟩:=BL h
     exact⟨by omega,q2⟩
    ·simp only[Except.ok.injEq,afO] at h
     obtain⟨rfl,rfl⟩:=h
     exact⟨p1,p2⟩
def MO(s:BY)(l:List Tok)(n:Nat)(x:Ins):Except (Int×Int) (Nat×Ins):=
 bnd (dY s l n 91) λn _=>kW s l 93 (l7 s l (l.length+1) n 0 {x with kind:=3})
section
variable(s:BY)(l:List Tok)(n c:Nat)(hl:qz s l)(hn:n≤l.length)(y:Ins)(hy:y.args.length≤100)(hy2:y.frm.length≤100)
include hl hn hy hy2 in
theorem UF:aX PG 213 2 [.ptr 0 0,.ptr 1 0] (HX s l n c y) (Ea s l c (MO s l n y)):=by
 have hll:=hl.2.1
 refine aX.mk (dM 14 2) av [0,1,2,3] Tryz.func213 Z (by kernel_rfl) Z Z (okI (by omega) _) ?_
 intro C x
 have h1:=jk s l n c hl (by omega) ⟨#[91]⟩
 by_cases e1:(txV s l n).data.toList=[91]
 ·rw[if_pos e1] at h1
  have l1:=jI e1
  refine x.call [0] Z tR Z h1 Z ⟨⟨Z,Z⟩,Z,tR⟩ ⟨⟨Z,ah Z,Z,Z,tR⟩,tR⟩ ?_
  have h2:=PV s l (n+1) c hl (by omega) {y with kind:=3} hy hy2
  obtain⟨R,hR⟩:∃R,l7 s l (l.length+1) (n+1) 0 {y with kind:=3}=R:=⟨_,Z⟩
  have hV:MO s l n y=kW s l 93 R:=by rw[MO,dY,if_pos e1,bnd,hR]
  rw[hR] at h2
  rcases R with⟨a,e⟩ | ⟨n',y'⟩
  ·refine x.die [0,1,5,4,2,3] Z tR Z h2 ⟨⟨Z,Z⟩,Z,Z,tR⟩ Z ⟨⟨Z,ah Z,Z,Z,tR⟩,⟨Z,Z,Z,Z,Z,Z,Z,Z,Z,tR⟩,⟨⟨Z,Z⟩,tR⟩,⟨⟨Z,Z⟩,tR⟩,⟨Z,Z,Z,λ_ _=>rfl⟩,⟨Z,Z,Z,λ_ _=>rfl⟩,tR⟩ ?_
   rw[hV]
   exact⟨Z,Z⟩
  ·obtain⟨q1,q2⟩:=BL hR
   refine x.call [0,1,5,4,2,3] Z tR Z h2 Z ⟨⟨Z,Z⟩,Z,Z,tR⟩ ⟨⟨Z,ah Z,Z,Z,tR⟩,⟨Z,Z,Z,Z,Z,Z,Z,Z,Z,tR⟩,⟨⟨Z,Z⟩,tR⟩,⟨⟨Z,Z⟩,tR⟩,⟨Z,Z,Z,λ_ _=>rfl⟩,⟨Z,Z,Z,λ_ _=>rfl⟩,tR⟩ ?_
   have h3:=jk s l n' c hl (by omega) ⟨#[93]⟩
   by_cases e3:(txV s l n').data.toList=[93]
   ·rw[if_pos e3] at h3
    refine x.call [0] Z tR Z h3 Z ⟨⟨Z,Z⟩,Z,tR⟩ ⟨⟨Z,ah Z,Z,Z,tR⟩,tR⟩ ?_
    refine x.exit Z tR ?_
    rw[hV,kW,if_pos e3]
    exact⟨.inl Z,tR,⟨⟨Z,ah Z,Z,Z,tR⟩,⟨Z,Z,Z,Z,Z,Z,Z,Z,Z,tR⟩,⟨Z,Z,Z,λ_ _=>rfl⟩,⟨Z,Z,Z,λ_ _=>rfl⟩,tR⟩,Z⟩
   ·rw[if_neg e3] at h3
    refine x.die [0] Z tR Z h3 ⟨⟨Z,Z⟩,Z,tR⟩ Z ⟨⟨Z,ah Z,Z,Z,tR⟩,tR⟩ ?_
    rw[hV,kW,if_neg e3]
    exact⟨Z,Z⟩
 ·rw[if_neg e1] at h1
  refine x.die [0] Z tR Z h1 ⟨⟨Z,Z⟩,Z,tR⟩ Z ⟨⟨Z,ah Z,Z,Z,tR⟩,tR⟩ ?_
  rw[MO,dY,if_neg e1,bnd]
  exact⟨Z,Z⟩
end
def Dt(s:BY)(l:List Tok)(n:Nat)(x:Ins)(w:List UInt8):Except (Int×Int) (Nat×Ins):=
 if w=[99,111,110,115,116] then rC s l (n+1) x else
 if w=[108,111,97,100] then cellV 4 s l (n+1) x else
 if w=[119,114,97,112] then cellV 5 s l (n+1) x else
 if w=[105,110,112,117,116] then yN s l (n+1) x else
 if w=[99,97,108,108] then Dr s l (n+1) x else
 if w=[114,101,108,101,97,115,101] then nM s l (n+1) x else
 if w=[112,104,105] then MO s l (n+1) x else
 .error (atV s l n,7)
def dU(s:BY)(l:List Tok)(n:Nat)(x:Ins):Except (Int×Int) (Nat×Ins):=
 if opV (txV s l n)≠0 then bnd (lZ s l (n+1) {x with kind:=2,op:=(opV (txV s l n):Int)}) λn x=>lZ s l n x
 else Dt s l n x (txV s l n).data.toList
section
variable(s:BY)(l:List Tok)(n c:Nat)(hl:qz s l)(hn:n≤l.length)(y:Ins)(hy:y.args.length≤100)(hy2:y.frm.length≤100)
include hl hn hy hy2 in
theorem MP:aX PG 181 2 [.ptr 0 0,.ptr 1 0] (HX s l n c y) (Ea s l c (dU s l n y)):=by
 have hll:=hl.2.1
 have ei:aB (vi ((n:Int)+1)) (vi ((n+1:Nat):Int)):=by rw[afQ];rfl
 refine aX.mk (dM 72 2) av [0,1,2,3] Tryz.func181 Z (by kernel_rfl) Z Z (okI (by omega) _) ?_
 intro C x
 refine x.call [0] Z tR Z (dG s l n c hl (by omega) 0 (by omega)) Z ⟨⟨Z,Z⟩,Z,tR⟩ ⟨⟨Z,ah Z,Z,Z,tR⟩,tR⟩ ?_
 obtain⟨w,hw⟩:∃w,txV s l n=w:=⟨_,Z⟩
 rw[show n+0=n from rfl,hw]
 refine x.pure Z tR Z (op_spec w) ⟨Z,tR⟩ ?_
 refine x.call [] Z tR Z MJ Z tR tR ?_
 refine x.look Z tR Z ⟨λe=>?_,λg0=>?_⟩
 ·have ho:opV w=0:=by unfold opV;rw[e];decide
  have lt:n<l.length:=jI (by rw[hw];exact e)
  have hv:dU s l n y=rC s l (n+1) y:=by
   rw[dU,hw,if_neg (by rw[ho];simp),e];rfl
  refine x.cond Z tR (λb=>?_) (λ_=>?_)
  ·have b:decide (opV w≠0)=true:=b
   rw[ho] at b;simp at b
  refine x.cond rfl tR (λ_=>?_) (λb=>by cases b)
  have h1:=Uy s l (n+1) c hl (by omega) y
  rw[hv]
  obtain⟨V,hV⟩:∃V,rC s l (n+1) y=V:=⟨_,Z⟩
  rw[hV] at h1 ⊢
  rcases V with⟨a,b⟩ | ⟨n',y'⟩
  ·exact x.die [0,1,2,3] Z (by simp only[ak,aj];omega) Z h1 ⟨⟨Z,Z⟩,⟨Z,Z⟩,tR⟩ Z ⟨⟨Z,ah Z,ei,Z,tR⟩,⟨Z,Z,Z,Z,Z,Z,Z,Z,Z,tR⟩,⟨Z,Z,Z,λ_ _=>rfl⟩,⟨Z,Z,Z,λ_ _=>rfl⟩,tR⟩ ⟨Z,Z⟩
  ·refine x.call [0,1,2,3] Z (by simp only[ak,aj];omega) Z h1 Z ⟨⟨Z,Z⟩,⟨Z,Z⟩,tR⟩ ⟨⟨Z,ah Z,ei,Z,tR⟩,⟨Z,Z,Z,Z,Z,Z,Z,Z,Z,tR⟩,⟨Z,Z,Z,λ_ _=>rfl⟩,⟨Z,Z,Z,λ_ _=>rfl⟩,tR⟩ ?_
   refine x.exit Z tR ?_
   exact⟨.inl Z,tR,⟨⟨Z,ah Z,Z,Z,tR⟩,⟨Z,Z,Z,Z,Z,Z,Z,Z,Z,tR⟩,⟨Z,Z,Z,λ_ _=>rfl⟩,⟨Z,Z,Z,λ_ _=>rfl⟩,tR⟩,Z⟩
 refine⟨λe=>?_,λg1=>?_⟩
 ·have ho:opV w=0:=by unfold opV;rw[e];decide
  have lt:n<l.length:=jI (by rw[hw];exact e)
  have hv:dU s l n y=cellV 4 s l (n+1) y:=by
   rw[dU,hw,if_neg (by rw[ho];simp),e];rfl
  refine x.cond Z tR (λb=>?_) (λ_=>?_)
  ·have b:decide (opV w≠0)=true:=b
   rw[ho] at b;simp at b
  refine x.cond rfl tR (λ_=>?_) (λb=>by cases b)
  have h1:=Jc s l (n+1) c hl (by omega) y 4
  rw[hv]
  obtain⟨V,hV⟩:∃V,cellV 4 s l (n+1) y=V:=⟨_,Z⟩
  rw[hV] at h1 ⊢
  rcases V with⟨a,b⟩ | ⟨n',y'⟩
  ·exact x.die [0,1,2,3,5] Z (by simp only[ak,aj];omega) Z h1 ⟨⟨Z,Z⟩,⟨Z,Z⟩,⟨Z,Z⟩,tR⟩ Z ⟨⟨Z,ah Z,ei,Z,tR⟩,⟨Z,Z,Z,Z,Z,Z,Z,Z,Z,tR⟩,⟨Z,Z,Z,λ_ _=>rfl⟩,⟨Z,Z,Z,λ_ _=>rfl⟩,⟨Z,tR⟩,tR⟩ ⟨Z,Z⟩
  ·refine x.call [0,1,2,3,5] Z (by simp only[ak,aj];omega) Z h1 Z ⟨⟨Z,Z⟩,⟨Z,Z⟩,⟨Z,Z⟩,tR⟩ ⟨⟨Z,ah Z,ei,Z,tR⟩,⟨Z,Z,Z,Z,Z,Z,Z,Z,Z,tR⟩,⟨Z,Z,Z,λ_ _=>rfl⟩,⟨Z,Z,Z,λ_ _=>rfl⟩,⟨Z,tR⟩,tR⟩ ?_
   refine x.exit Z tR ?_
   exact⟨.inl Z,tR,⟨⟨Z,ah Z,Z,Z,tR⟩,⟨Z,Z,Z,Z,Z,Z,Z,Z,Z,tR⟩,⟨Z,Z,Z,λ_ _=>rfl⟩,⟨Z,Z,Z,λ_ _=>rfl⟩,tR⟩,Z⟩
 refine⟨λe=>?_,λg2=>?_⟩
 ·have ho:opV w=0:=by unfold opV;rw[e];decide
  have lt:n<l.length:=jI (by rw[hw];exact e)
  have hv:dU s l n y=cellV 5 s l (n+1) y:=by
   rw[dU,hw,if_neg (by rw[ho];simp),e];rfl
  refine x.cond Z tR (λb=>?_) (λ_=>?_)
  ·have b:decide (opV w≠0)=true:=b
   rw[ho] at b;simp at b
  refine x.cond rfl tR (λ_=>?_) (λb=>by cases b)
  have h1:=Jc s l (n+1) c hl (by omega) y 5
  rw[hv]
  obtain⟨V,hV⟩:∃V,cellV 5 s l (n+1) y=V:=⟨_,Z⟩
  rw[hV] at h1 ⊢
  rcases V with⟨a,b⟩ | ⟨n',y'⟩
  ·exact x.die [0,1,2,3,6] Z (by simp only[ak,aj];omega) Z h1 ⟨⟨Z,Z⟩,⟨Z,Z⟩,⟨Z,Z⟩,tR⟩ Z ⟨⟨Z,ah Z,ei,Z,tR⟩,⟨Z,Z,Z,Z,Z,Z,Z,Z,Z,tR⟩,⟨Z,Z,Z,λ_ _=>rfl⟩,⟨Z,Z,Z,λ_ _=>rfl⟩,⟨Z,tR⟩,tR⟩ ⟨Z,Z⟩
  ·refine x.call [0,1,2,3,6] Z (by simp only[ak,aj];omega) Z h1 Z ⟨⟨Z,Z⟩,⟨Z,Z⟩,⟨Z,Z⟩,tR⟩ ⟨⟨Z,ah Z,ei,Z,tR⟩,⟨Z,Z,Z,Z,Z,Z,Z,Z,Z,tR⟩,⟨Z,Z,Z,λ_ _=>rfl⟩,⟨Z,Z,Z,λ_ _=>rfl⟩,⟨Z,tR⟩,tR⟩ ?_
   refine x.exit Z tR ?_
   exact⟨.inl Z,tR,⟨⟨Z,ah Z,Z,Z,tR⟩,⟨Z,Z,Z,Z,Z,Z,Z,Z,Z,tR⟩,⟨Z,Z,Z,λ_ _=>rfl⟩,⟨Z,Z,Z,λ_ _=>rfl⟩,tR⟩,Z⟩
 refine⟨λe=>?_,λg3=>?_⟩
 ·have ho:opV w=0:=by unfold opV;rw[e];decide
  have lt:n<l.length:=jI (by rw[hw];exact e)
  have hv:dU s l n y=yN s l (n+1) y:=by
   rw[dU,hw,if_neg (by rw[ho];simp),e];rfl
  refine x.cond Z tR (λb=>?_) (λ_=>?_)
  ·have b:decide (opV w≠0)=true:=b
   rw[ho] at b;simp at b
  refine x.cond rfl tR (λ_=>?_) (λb=>by cases b)
  have h1:=Uz s l (n+1) c hl (by omega) y
  rw[hv]
  obtain⟨V,hV⟩:∃V,yN s l (n+1) y=V:=⟨_,Z⟩
  rw[hV] at h1 ⊢
  rcases V with⟨a,b⟩ | ⟨n',y'⟩
  ·exact x.die [0,1,2,3] Z (by simp only[ak,aj];omega) Z h1 ⟨⟨Z,Z⟩,⟨Z,Z⟩,tR⟩ Z ⟨⟨Z,ah Z,ei,Z,tR⟩,⟨Z,Z,Z,Z,Z,Z,Z,Z,Z,tR⟩,⟨Z,Z,Z,λ_ _=>rfl⟩,⟨Z,Z,Z,λ_ _=>rfl⟩,tR⟩ ⟨Z,Z⟩
  ·refine x.call [0,1,2,3] Z (by simp only[ak,aj];omega) Z h1 Z ⟨⟨Z,Z⟩,⟨Z,Z⟩,tR⟩ ⟨⟨Z,ah Z,ei,Z,tR⟩,⟨Z,Z,Z,Z,Z,Z,Z,Z,Z,tR⟩,⟨Z,Z,Z,λ_ _=>rfl⟩,⟨Z,Z,Z,λ_ _=>rfl⟩,tR⟩ ?_
   refine x.exit Z tR ?_
   exact⟨.inl Z,tR,⟨⟨Z,ah Z,Z,Z,tR⟩,⟨Z,Z,Z,Z,Z,Z,Z,Z,Z,tR⟩,⟨Z,Z,Z,λ_ _=>rfl⟩,⟨Z,Z,Z,λ_ _=>rfl⟩,tR⟩,Z⟩
 refine⟨λe=>?_,λg4=>?_⟩
 ·have ho:opV w=0:=by unfold opV;rw[e];decide
  have lt:n<l.length:=jI (by rw[hw];exact e)
  have hv:dU s l n y=Dr s l (n+1) y:=by
   rw[dU,hw,if_neg (by rw[ho];simp),e];rfl
  refine x.cond Z tR (λb=>?_) (λ_=>?_)
  ·have b:decide (opV w≠0)=true:=b
   rw[ho] at b;simp at b
  refine x.cond rfl tR (λ_=>?_) (λb=>by cases b)
  have h1:=UA s l (n+1) c hl (by omega) y
  rw[hv]
  obtain⟨V,hV⟩:∃V,Dr s l (n+1) y=V:=⟨_,Z⟩
  rw[hV] at h1 ⊢
  rcases V with⟨a,b⟩ | ⟨n',y'⟩
  ·exact x.die [0,1,2,3] Z (by simp only[ak,aj];omega) Z h1 ⟨⟨Z,Z⟩,⟨Z,Z⟩,tR⟩ Z ⟨⟨Z,ah Z,ei,Z,tR⟩,⟨Z,Z,Z,Z,Z,Z,Z,Z,Z,tR⟩,⟨Z,Z,Z,λ_ _=>rfl⟩,⟨Z,Z,Z,λ_ _=>rfl⟩,tR⟩ ⟨Z,Z⟩
  ·refine x.call [0,1,2,3] Z (by simp only[ak,aj];omega) Z h1 Z ⟨⟨Z,Z⟩,⟨Z,Z⟩,tR⟩ ⟨⟨Z,ah Z,ei,Z,tR⟩,⟨Z,Z,Z,Z,Z,Z,Z,Z,Z,tR⟩,⟨Z,Z,Z,λ_ _=>rfl⟩,⟨Z,Z,Z,λ_ _=>rfl⟩,tR⟩ ?_
   refine x.exit Z tR ?_
   exact⟨.inl Z,tR,⟨⟨Z,ah Z,Z,Z,tR⟩,⟨Z,Z,Z,Z,Z,Z,Z,Z,Z,tR⟩,⟨Z,Z,Z,λ_ _=>rfl⟩,⟨Z,Z,Z,λ_ _=>rfl⟩,tR⟩,Z⟩
 refine⟨λe=>?_,λg5=>?_⟩
 ·have ho:opV w=0:=by unfold opV;rw[e];decide
  have lt:n<l.length:=jI (by rw[hw];exact e)
  have hv:dU s l n y=nM s l (n+1) y:=by
   rw[dU,hw,if_neg (by rw[ho];simp),e];rfl
  refine x.cond Z tR (λb=>?_) (λ_=>?_)
  ·have b:decide (opV w≠0)=true:=b
   rw[ho] at b;simp at b
  refine x.cond rfl tR (λ_=>?_) (λb=>by cases b)
  have h1:=UC s l (n+1) c hl (by omega) y
  rw[hv]
  obtain⟨V,hV⟩:∃V,nM s l (n+1) y=V:=⟨_,Z⟩
  rw[hV] at h1 ⊢
  rcases V with⟨a,b⟩ | ⟨n',y'⟩
  ·exact x.die [0,1,2,3] Z (by simp only[ak,aj];omega) Z h1 ⟨⟨Z,Z⟩,⟨Z,Z⟩,tR⟩ Z ⟨⟨Z,ah Z,ei,Z,tR⟩,⟨Z,Z,Z,Z,Z,Z,Z,Z,Z,tR⟩,⟨Z,Z,Z,λ_ _=>rfl⟩,⟨Z,Z,Z,λ_ _=>rfl⟩,tR⟩ ⟨Z,Z⟩
  ·refine x.call [0,1,2,3] Z (by simp only[ak,aj];omega) Z h1 Z ⟨⟨Z,Z⟩,⟨Z,Z⟩,tR⟩ ⟨⟨Z,ah Z,ei,Z,tR⟩,⟨Z,Z,Z,Z,Z,Z,Z,Z,Z,tR⟩,⟨Z,Z,Z,λ_ _=>rfl⟩,⟨Z,Z,Z,λ_ _=>rfl⟩,tR⟩ ?_
   refine x.exit Z tR ?_
   exact⟨.inl Z,tR,⟨⟨Z,ah Z,Z,Z,tR⟩,⟨Z,Z,Z,Z,Z,Z,Z,Z,Z,tR⟩,⟨Z,Z,Z,λ_ _=>rfl⟩,⟨Z,Z,Z,λ_ _=>rfl⟩,tR⟩,Z⟩
 refine⟨λe=>?_,λg6=>?_⟩
 ·have ho:opV w=0:=by unfold opV;rw[e];decide
  have lt:n<l.length:=jI (by rw[hw];exact e)
  have hv:dU s l n y=MO s l (n+1) y:=by
   rw[dU,hw,if_neg (by rw[ho];simp),e];rfl
  refine x.cond Z tR (λb=>?_) (λ_=>?_)
  ·have b:decide (opV w≠0)=true:=b
   rw[ho] at b;simp at b
  refine x.cond rfl tR (λ_=>?_) (λb=>by cases b)
  have h1:=UF s l (n+1) c hl (by omega) y hy hy2
  rw[hv]
  obtain⟨V,hV⟩:∃V,MO s l (n+1) y=V:=⟨_,Z⟩
  rw[hV] at h1 ⊢
  rcases V with⟨a,b⟩ | ⟨n',y'⟩
  ·exact x.die [0,1,2,3] Z (by simp only[ak,aj];omega) Z h1 ⟨⟨Z,Z⟩,⟨Z,Z⟩,tR⟩ Z ⟨⟨Z,ah Z,ei,Z,tR⟩,⟨Z,Z,Z,Z,Z,Z,Z,Z,Z,tR⟩,⟨Z,Z,Z,λ_ _=>rfl⟩,⟨Z,Z,Z,λ_ _=>rfl⟩,tR⟩ ⟨Z,Z⟩
  ·refine x.call [0,1,2,3] Z (by simp only[ak,aj];omega) Z h1 Z ⟨⟨Z,Z⟩,⟨Z,Z⟩,tR⟩ ⟨⟨Z,ah Z,ei,Z,tR⟩,⟨Z,Z,Z,Z,Z,Z,Z,Z,Z,tR⟩,⟨Z,Z,Z,λ_ _=>rfl⟩,⟨Z,Z,Z,λ_ _=>rfl⟩,tR⟩ ?_
   refine x.exit Z tR ?_
   exact⟨.inl Z,tR,⟨⟨Z,ah Z,Z,Z,tR⟩,⟨Z,Z,Z,Z,Z,Z,Z,Z,Z,tR⟩,⟨Z,Z,Z,λ_ _=>rfl⟩,⟨Z,Z,Z,λ_ _=>rfl⟩,tR⟩,Z⟩
 have hd:Dt s l n y w.data.toList=.error (atV s l n,7):=by
  rw[Dt,if_neg g0,if_neg g1,if_neg g2,if_neg g3,if_neg g4,if_neg g5,if_neg g6]
 refine x.cond Z tR (λb=>?_) (λb=>?_)
 ·have b:decide (opV w≠0)=true:=b
  have b:opV w≠0:=by simpa using b
  have lt:n<l.length:=by
   refine Classical.byContradiction λhh=>b ?_
   rw[←hw,txV,if_neg hh];decide
  have hv:dU s l n y=bnd (lZ s l (n+1) {y with kind:=2,op:=(opV w:Int)}) λn x=>lZ s l n x:=by
   rw[dU,hw,if_pos b]
  have h1:=aY s l (n+1) c hl (by omega)
  cases e1:isV l (n+1) 1 with
  | false=>
   rw[e1,if_neg (by simp)] at h1
   refine x.draw [0] [0,1,5] [2,3,4] [6,7] [8,9,10,11] Z (by simp only[ak,aj];omega) ay (by kernel_rfl) gD.quiet Z tR (λC1 x1=>?_)
   refine x1.die [0] Z tR Z h1 ⟨⟨Z,Z⟩,tR⟩ Z ⟨⟨Z,ah Z,ei,Z,tR⟩,tR⟩ ⟨⟨_,Z⟩,Z,?_⟩
   rw[hv]
   simp only[lZ,nmV,bnd,e1,if_true,afS,if_false]
   exact⟨Z,Z⟩
  | true=>
   rw[e1,if_pos rfl] at h1
   have l1:=dB e1
   refine x.draw [0] [0,1,5] [2,3,4] [6,7] [8,9,10,11] Z (by simp only[ak,aj];omega) ay (by kernel_rfl) gD.quiet Z tR (λC1 x1=>?_)
   refine x1.call [0] Z tR Z h1 Z ⟨⟨Z,Z⟩,tR⟩ ⟨⟨Z,ah Z,ei,Z,tR⟩,tR⟩ ?_
   refine x1.back Z tR ?_
   refine x1.back Z tR ?_
   refine x.code Z (by simp only[ak,big,List.length_append,List.length_cons,List.length_nil];omega) ?_
   refine x.le (s':=⟨[(0,.ptr 0 0),(1,.ptr 1 0)],[(0,pC s l (n+1+1) c),(1,iC {y with kind:=2,op:=(opV w:Int)}),(2,iw (y.args++[txV s l (n+1)])),(3,iw y.frm)],4⟩) ⟨⟨⟨Z,Z⟩,⟨Z,Z⟩,tR⟩,⟨⟨Z,ah Z,Z,Z,tR⟩,⟨Z,Z,Z,Z,Z,Z,Z,Z,Z,tR⟩,⟨Z,Z,len1 _ _,λj hj=>jr _ _ j hj⟩,⟨Z,Z,Z,λ_ _=>rfl⟩,tR⟩,Z⟩ ?_
   have h2:=aY s l (n+1+1) c hl (by omega)
   cases e2:isV l (n+1+1) 1 with
   | false=>
    rw[e2,if_neg (by simp)] at h2
    refine x.draw [0] [0,1,5] [2,3,4] [6,7] [8,9,10,11] Z tR ay (by kernel_rfl) gD.quiet Z tR (λC1 x1=>?_)
    refine x1.die [0] Z tR Z h2 ⟨⟨Z,Z⟩,tR⟩ Z ⟨⟨Z,ah Z,Z,Z,tR⟩,tR⟩ ⟨⟨_,Z⟩,Z,?_⟩
    rw[hv]
    simp only[lZ,nmV,bnd,e1,e2,if_true,afS,if_false]
    exact⟨Z,Z⟩
   | true=>
    rw[e2,if_pos rfl] at h2
    refine x.draw [0] [0,1,5] [2,3,4] [6,7] [8,9,10,11] Z tR ay (by kernel_rfl) gD.quiet Z tR (λC1 x1=>?_)
    refine x1.call [0] Z tR Z h2 Z ⟨⟨Z,Z⟩,tR⟩ ⟨⟨Z,ah Z,Z,Z,tR⟩,tR⟩ ?_
    refine x1.back Z tR ?_
    refine x1.back Z tR ?_
    refine x.exit Z (by simp only[ak,big,List.length_append,List.length_cons,List.length_nil];omega) ?_
    rw[hv]
    simp only[lZ,nmV,bnd,e1,e2,if_true]
    exact⟨.inl Z,tR,⟨⟨Z,ah Z,Z,Z,tR⟩,⟨Z,Z,Z,Z,Z,Z,Z,Z,Z,tR⟩,⟨Z,Z,len1 _ _,λj hj=>jr _ _ j hj⟩,⟨Z,Z,Z,λ_ _=>rfl⟩,tR⟩,Z⟩
 ·have b:decide (opV w≠0)=false:=b
  have b:opV w=0:=by simpa using b
  refine x.cond rfl tR (λb=>by cases b) (λ_=>?_)
  refine x.die [0] Z tR Z (lF s l n c (by omega) 7) ⟨⟨Z,Z⟩,Z,tR⟩ Z ⟨⟨Z,ah Z,Z,Z,tR⟩,tR⟩ ?_
  rw[dU,hw,if_neg (by rw[b];simp),hd]
  exact⟨Z,Z⟩
end
def aP(at_:Int):Ins:=⟨0,0,.empty,.empty,.empty,[],[],0,at_⟩
abbrev xV(x:Ins):V:=.agg [.d (.int .u8 x.kind),.d (.int .u8 x.op),vs x.dst,vs x.ref,vs x.alt,.own 1,.own 2,vi x.num,vi x.at_]
def acu(s:BY)(l:List Tok)(c:Nat):Except (Int×Int) (Nat×Ins)->Out
 | .ok (n,x)=>.ret (xV x) [pC s l n (c+1),iw x.args,iw x.frm]
 | .error (a,e)=>xJ a e
def rD(s:BY)(l:List Tok)(w:List UInt8):Option (Nat->Ins->Except (Int×Int) (Nat×Ins)):=
 if w=[115,116,111,114,101] then some (wh s l) else
 if w=[111,117,116,112,117,116] then some (xY s l) else
 if w=[106,117,109,112] then some (Ab s l) else
 if w=[98,114,97,110,99,104] then some (wm s l) else
 if w=[114,101,116,117,114,110] then some (Dq s l) else
 none
def bN(s:BY)(l:List Tok)(n c:Nat):Except (Int×Int) (Nat×Ins):=
 if (isV l n 1=false∧(rD s l (txV s l n).data.toList).isNone=true) then .error (atV s l n,7)
 else if isV l n 1=true∧¬(txV s l (n+1)).data.toList=[61] then .error (atV s l (n+1),7)
 else if 4096≤c then .error (atV s l n,3)
 else match rD s l (txV s l n).data.toList with
  | some f=>f (n+1) (aP (atV s l n))
  | none=>bnd (nmV s l n) λn1 d=>bnd (dY s l n1 61) λn2 _=>dU s l n2 {aP (atV s l n) with dst:=d}
section
variable(s:BY)(l:List Tok)(n c:Nat)(hl:qz s l)(hn:n≤l.length)(hc:c≤1000000)
include hl hn hc in
theorem MQ:aX PG 152 1 [.ptr 0 0] [pC s l n c] (acu s l c (bN s l n c)):=by
 have hll:=hl.2.1
 have ei:aB (vi ((n:Int)+1)) (vi ((n+1:Nat):Int)):=by rw[afQ];rfl
 have ej:aB (vi ((c:Int)+1)) (vi ((c+1:Nat):Int)):=by rw[afQ];rfl
 refine aX.mk (dM 71 1) av [0,3,4] Tryz.func152 rfl (by kernel_rfl) rfl rfl (by rcases bN s l n c with⟨a,e⟩ | ⟨n',o⟩<;>rfl) ?_
 intro C x
 refine x.call [0] Z tR Z (z8 s l n c (by omega)) Z ⟨⟨Z,Z⟩,tR⟩ ⟨⟨Z,ah Z,Z,Z,tR⟩,tR⟩ ?_
 refine x.op Z tR ?_
 refine Go.ownB 2 5 9 1 (λj=>[D.str (([]:List BY).getD j .empty)]) Z Z ?_
 refine Go.ownB 2 6 9 1 (λj=>[D.str (([]:List BY).getD j .empty)]) Z Z ?_
 refine x.call [] Z tR Z UD Z tR tR ?_
 refine x.call [0] Z tR Z (dG s l n c hl (by omega) 0 (by omega)) Z ⟨⟨Z,Z⟩,Z,tR⟩ ⟨⟨Z,ah Z,Z,Z,tR⟩,tR⟩ ?_
 obtain⟨w,hw⟩:∃w,txV s l n=w:=⟨_,Z⟩
 rw[show n+0=n from rfl,hw]
 have hroom:=oL s l n c (by omega) (c:Int) 4096
 have BM:=lF s l (n+1) c (by omega) 7
 refine x.look Z tR Z ⟨λe=>?_,λg0=>?_⟩
 ·have lt:n<l.length:=jI (by rw[hw];exact e)
  have hact:rD s l w.data.toList=some (wh s l):=by rw[e];rfl
  refine x.call [0] Z tR Z (gN s l n c 1) Z ⟨⟨Z,Z⟩,Z,tR⟩ ⟨⟨Z,ah Z,Z,Z,tR⟩,tR⟩ ?_
  refine x.cond Z tR (λb=>?_) (λb=>?_)
  ·have b:((!isV l n 1)&&false)=true:=b
   simp at b
  have n1:¬(isV l n 1=false∧(rD s l w.data.toList).isNone=true):=by rw[hact];simp
  refine x.call [0] Z tR Z (gN s l n c 1) Z ⟨⟨Z,Z⟩,Z,tR⟩ ⟨⟨Z,ah Z,Z,Z,tR⟩,tR⟩ ?_
  refine x.oU [0] Z tR Z (λ_=>dG s l n c hl (by omega) 1 (by omega)) Z ⟨⟨Z,Z⟩,Z,tR⟩ ⟨⟨Z,ah Z,Z,Z,tR⟩,tR⟩ ⟨⟨Z,ah Z,Z,Z,tR⟩,⟨Z,Z,Z,Z,Z,Z,Z,Z,Z,Z,tR⟩,⟨Z,Z,Z,Z,Z,Z,Z,Z,Z,tR⟩,⟨Z,Z,Z,λ_ _=>rfl⟩,⟨Z,Z,Z,λ_ _=>rfl⟩,⟨Z,Z,Z,Z,Z,tR,tR,Z,Z,tR⟩,tR⟩ ?_
  refine x.cond Z tR (λb2=>?_) (λb2=>?_)
  ·have b2:(isV l n 1&&!decide ((txV s l (n+1)).data.toList=[61]))=true:=b2
   have b2:isV l n 1=true∧¬(txV s l (n+1)).data.toList=[61]:=by simpa using b2
   refine x.die [0] Z (by simp only[ak,aj];omega) Z BM ⟨⟨Z,Z⟩,Z,tR⟩ Z ⟨⟨Z,ah Z,ei,Z,tR⟩,tR⟩ ?_
   rw[bN,hw,if_neg n1,if_pos b2]
   exact⟨Z,Z⟩
  have b2:(isV l n 1&&!decide ((txV s l (n+1)).data.toList=[61]))=false:=b2
  have n2:¬(isV l n 1=true∧¬(txV s l (n+1)).data.toList=[61]):=λhh=>by rw[hh.1,decide_eq_false hh.2] at b2;cases b2
  by_cases h3:4096≤c
  ·rw[if_pos (by omega)] at hroom
   refine x.die [0] Z tR Z hroom ⟨⟨Z,Z⟩,Z,Z,tR⟩ Z ⟨⟨Z,ah Z,Z,Z,tR⟩,tR⟩ ?_
   rw[bN,hw,if_neg n1,if_neg n2,if_pos h3]
   exact⟨Z,Z⟩
  rw[if_neg (by omega)] at hroom
  refine x.call [0] Z tR Z hroom Z ⟨⟨Z,Z⟩,Z,Z,tR⟩ ⟨⟨Z,ah Z,Z,Z,tR⟩,tR⟩ ?_
  have hv:bN s l n c=wh s l (n+1) (aP (atV s l n)):=by rw[bN,hw,if_neg n1,if_neg n2,if_neg h3,hact]
  rw[hv]
  have h1:=Ut s l (n+1) (c+1) hl (by omega) (aP (atV s l n)) (Nat.zero_le _)
  obtain⟨V,hV⟩:∃V,wh s l (n+1) (aP (atV s l n))=V:=⟨_,Z⟩
  rw[hV] at h1 ⊢
  refine x.cond rfl (by simp only[ak,aj];omega) (λ_=>?_) (λb=>by cases b)
  rcases V with⟨a,b⟩ | ⟨n',y'⟩
  ·exact x.die [0,2,3,4] Z (by simp only[ak,aj];omega) Z h1 ⟨⟨Z,Z⟩,⟨Z,Z⟩,tR⟩ Z ⟨⟨Z,ah Z,ei,ej,tR⟩,⟨Z,Z,Z,Z,Z,Z,Z,Z,Z,tR⟩,⟨Z,Z,Z,λj hj=>absurd hj (afN _)⟩,⟨Z,Z,Z,λj hj=>absurd hj (afN _)⟩,tR⟩ ⟨Z,Z⟩
  ·refine x.call [0,2,3,4] Z (by simp only[ak,aj];omega) Z h1 Z ⟨⟨Z,Z⟩,⟨Z,Z⟩,tR⟩ ⟨⟨Z,ah Z,ei,ej,tR⟩,⟨Z,Z,Z,Z,Z,Z,Z,Z,Z,tR⟩,⟨Z,Z,Z,λj hj=>absurd hj (afN _)⟩,⟨Z,Z,Z,λj hj=>absurd hj (afN _)⟩,tR⟩ ?_
   refine x.exit Z tR ?_
   exact⟨.inr Z,⟨Z,Z,Z,Z,Z,Z,Z,Z,Z,tR⟩,⟨⟨Z,ah Z,Z,Z,tR⟩,⟨Z,Z,Z,λ_ _=>rfl⟩,⟨Z,Z,Z,λ_ _=>rfl⟩,tR⟩,Z⟩
 refine⟨λe=>?_,λg1=>?_⟩
 ·have lt:n<l.length:=jI (by rw[hw];exact e)
  have hact:rD s l w.data.toList=some (xY s l):=by rw[e];rfl
  refine x.call [0] Z tR Z (gN s l n c 1) Z ⟨⟨Z,Z⟩,Z,tR⟩ ⟨⟨Z,ah Z,Z,Z,tR⟩,tR⟩ ?_
  refine x.cond Z tR (λb=>?_) (λb=>?_)
  ·have b:((!isV l n 1)&&false)=true:=b
   simp at b
  have n1:¬(isV l n 1=false∧(rD s l w.data.toList).isNone=true):=by rw[hact];simp
  refine x.call [0] Z tR Z (gN s l n c 1) Z ⟨⟨Z,Z⟩,Z,tR⟩ ⟨⟨Z,ah Z,Z,Z,tR⟩,tR⟩ ?_
  refine x.oU [0] Z tR Z (λ_=>dG s l n c hl (by omega) 1 (by omega)) Z ⟨⟨Z,Z⟩,Z,tR⟩ ⟨⟨Z,ah Z,Z,Z,tR⟩,tR⟩ ⟨⟨Z,ah Z,Z,Z,tR⟩,⟨Z,Z,Z,Z,Z,Z,Z,Z,Z,Z,tR⟩,⟨Z,Z,Z,Z,Z,Z,Z,Z,Z,tR⟩,⟨Z,Z,Z,λ_ _=>rfl⟩,⟨Z,Z,Z,λ_ _=>rfl⟩,⟨Z,Z,Z,Z,Z,tR,tR,Z,Z,tR⟩,tR⟩ ?_
  refine x.cond Z tR (λb2=>?_) (λb2=>?_)
  ·have b2:(isV l n 1&&!decide ((txV s l (n+1)).data.toList=[61]))=true:=b2
   have b2:isV l n 1=true∧¬(txV s l (n+1)).data.toList=[61]:=by simpa using b2
   refine x.die [0] Z (by simp only[ak,aj];omega) Z BM ⟨⟨Z,Z⟩,Z,tR⟩ Z ⟨⟨Z,ah Z,ei,Z,tR⟩,tR⟩ ?_
   rw[bN,hw,if_neg n1,if_pos b2]
   exact⟨Z,Z⟩
  have b2:(isV l n 1&&!decide ((txV s l (n+1)).data.toList=[61]))=false:=b2
  have n2:¬(isV l n 1=true∧¬(txV s l (n+1)).data.toList=[61]):=λhh=>by rw[hh.1,decide_eq_false hh.2] at b2;cases b2
  by_cases h3:4096≤c
  ·rw[if_pos (by omega)] at hroom
   refine x.die [0] Z tR Z hroom ⟨⟨Z,Z⟩,Z,Z,tR⟩ Z ⟨⟨Z,ah Z,Z,Z,tR⟩,tR⟩ ?_
   rw[bN,hw,if_neg n1,if_neg n2,if_pos h3]
   exact⟨Z,Z⟩
  rw[if_neg (by omega)] at hroom
  refine x.call [0] Z tR Z hroom Z ⟨⟨Z,Z⟩,Z,Z,tR⟩ ⟨⟨Z,ah Z,Z,Z,tR⟩,tR⟩ ?_
  have hv:bN s l n c=xY s l (n+1) (aP (atV s l n)):=by rw[bN,hw,if_neg n1,if_neg n2,if_neg h3,hact]
  rw[hv]
  have h1:=Uu s l (n+1) (c+1) hl (by omega) (aP (atV s l n)) (Nat.zero_le _)
  obtain⟨V,hV⟩:∃V,xY s l (n+1) (aP (atV s l n))=V:=⟨_,Z⟩
  rw[hV] at h1 ⊢
  refine x.cond rfl (by simp only[ak,aj];omega) (λ_=>?_) (λb=>by cases b)
  rcases V with⟨a,b⟩ | ⟨n',y'⟩
  ·exact x.die [0,2,3,4] Z (by simp only[ak,aj];omega) Z h1 ⟨⟨Z,Z⟩,⟨Z,Z⟩,tR⟩ Z ⟨⟨Z,ah Z,ei,ej,tR⟩,⟨Z,Z,Z,Z,Z,Z,Z,Z,Z,tR⟩,⟨Z,Z,Z,λj hj=>absurd hj (afN _)⟩,⟨Z,Z,Z,λj hj=>absurd hj (afN _)⟩,tR⟩ ⟨Z,Z⟩
  ·refine x.call [0,2,3,4] Z (by simp only[ak,aj];omega) Z h1 Z ⟨⟨Z,Z⟩,⟨Z,Z⟩,tR⟩ ⟨⟨Z,ah Z,ei,ej,tR⟩,⟨Z,Z,Z,Z,Z,Z,Z,Z,Z,tR⟩,⟨Z,Z,Z,λj hj=>absurd hj (afN _)⟩,⟨Z,Z,Z,λj hj=>absurd hj (afN _)⟩,tR⟩ ?_
   refine x.exit Z tR ?_
   exact⟨.inr Z,⟨Z,Z,Z,Z,Z,Z,Z,Z,Z,tR⟩,⟨⟨Z,ah Z,Z,Z,tR⟩,⟨Z,Z,Z,λ_ _=>rfl⟩,⟨Z,Z,Z,λ_ _=>rfl⟩,tR⟩,Z⟩
 refine⟨λe=>?_,λg2=>?_⟩
 ·have lt:n<l.length:=jI (by rw[hw];exact e)
  have hact:rD s l w.data.toList=some (Ab s l):=by rw[e];rfl
  refine x.call [0] Z tR Z (gN s l n c 1) Z ⟨⟨Z,Z⟩,Z,tR⟩ ⟨⟨Z,ah Z,Z,Z,tR⟩,tR⟩ ?_
  refine x.cond Z tR (λb=>?_) (λb=>?_)
  ·have b:((!isV l n 1)&&false)=true:=b
   simp at b
  have n1:¬(isV l n 1=false∧(rD s l w.data.toList).isNone=true):=by rw[hact];simp
  refine x.call [0] Z tR Z (gN s l n c 1) Z ⟨⟨Z,Z⟩,Z,tR⟩ ⟨⟨Z,ah Z,Z,Z,tR⟩,tR⟩ ?_
  refine x.oU [0] Z tR Z (λ_=>dG s l n c hl (by omega) 1 (by omega)) Z ⟨⟨Z,Z⟩,Z,tR⟩ ⟨⟨Z,ah Z,Z,Z,tR⟩,tR⟩ ⟨⟨Z,ah Z,Z,Z,tR⟩,⟨Z,Z,Z,Z,Z,Z,Z,Z,Z,Z,tR⟩,⟨Z,Z,Z,Z,Z,Z,Z,Z,Z,tR⟩,⟨Z,Z,Z,λ_ _=>rfl⟩,⟨Z,Z,Z,λ_ _=>rfl⟩,⟨Z,Z,Z,Z,Z,tR,tR,Z,Z,tR⟩,tR⟩ ?_
  refine x.cond Z tR (λb2=>?_) (λb2=>?_)
  ·have b2:(isV l n 1&&!decide ((txV s l (n+1)).data.toList=[61]))=true:=b2
   have b2:isV l n 1=true∧¬(txV s l (n+1)).data.toList=[61]:=by simpa using b2
   refine x.die [0] Z (by simp only[ak,aj];omega) Z BM ⟨⟨Z,Z⟩,Z,tR⟩ Z ⟨⟨Z,ah Z,ei,Z,tR⟩,tR⟩ ?_
   rw[bN,hw,if_neg n1,if_pos b2]
   exact⟨Z,Z⟩
  have b2:(isV l n 1&&!decide ((txV s l (n+1)).data.toList=[61]))=false:=b2
  have n2:¬(isV l n 1=true∧¬(txV s l (n+1)).data.toList=[61]):=λhh=>by rw[hh.1,decide_eq_false hh.2] at b2;cases b2
  by_cases h3:4096≤c
  ·rw[if_pos (by omega)] at hroom
   refine x.die [0] Z tR Z hroom ⟨⟨Z,Z⟩,Z,Z,tR⟩ Z ⟨⟨Z,ah Z,Z,Z,tR⟩,tR⟩ ?_
   rw[bN,hw,if_neg n1,if_neg n2,if_pos h3]
   exact⟨Z,Z⟩
  rw[if_neg (by omega)] at hroom
  refine x.call [0] Z tR Z hroom Z ⟨⟨Z,Z⟩,Z,Z,tR⟩ ⟨⟨Z,ah Z,Z,Z,tR⟩,tR⟩ ?_
  have hv:bN s l n c=Ab s l (n+1) (aP (atV s l n)):=by rw[bN,hw,if_neg n1,if_neg n2,if_neg h3,hact]
  rw[hv]
  have h1:=Uv s l (n+1) (c+1) hl (by omega) (aP (atV s l n))
  obtain⟨V,hV⟩:∃V,Ab s l (n+1) (aP (atV s l n))=V:=⟨_,Z⟩
  rw[hV] at h1 ⊢
  refine x.cond rfl (by simp only[ak,aj];omega) (λ_=>?_) (λb=>by cases b)
  rcases V with⟨a,b⟩ | ⟨n',y'⟩
  ·exact x.die [0,2,3,4] Z (by simp only[ak,aj];omega) Z h1 ⟨⟨Z,Z⟩,⟨Z,Z⟩,tR⟩ Z ⟨⟨Z,ah Z,ei,ej,tR⟩,⟨Z,Z,Z,Z,Z,Z,Z,Z,Z,tR⟩,⟨Z,Z,Z,λj hj=>absurd hj (afN _)⟩,⟨Z,Z,Z,λj hj=>absurd hj (afN _)⟩,tR⟩ ⟨Z,Z⟩
  ·refine x.call [0,2,3,4] Z (by simp only[ak,aj];omega) Z h1 Z ⟨⟨Z,Z⟩,⟨Z,Z⟩,tR⟩ ⟨⟨Z,ah Z,ei,ej,tR⟩,⟨Z,Z,Z,Z,Z,Z,Z,Z,Z,tR⟩,⟨Z,Z,Z,λj hj=>absurd hj (afN _)⟩,⟨Z,Z,Z,λj hj=>absurd hj (afN _)⟩,tR⟩ ?_
   refine x.exit Z tR ?_
   exact⟨.inr Z,⟨Z,Z,Z,Z,Z,Z,Z,Z,Z,tR⟩,⟨⟨Z,ah Z,Z,Z,tR⟩,⟨Z,Z,Z,λ_ _=>rfl⟩,⟨Z,Z,Z,λ_ _=>rfl⟩,tR⟩,Z⟩
 refine⟨λe=>?_,λg3=>?_⟩
 ·have lt:n<l.length:=jI (by rw[hw];exact e)
  have hact:rD s l w.data.toList=some (wm s l):=by rw[e];rfl
  refine x.call [0] Z tR Z (gN s l n c 1) Z ⟨⟨Z,Z⟩,Z,tR⟩ ⟨⟨Z,ah Z,Z,Z,tR⟩,tR⟩ ?_
  refine x.cond Z tR (λb=>?_) (λb=>?_)
  ·have b:((!isV l n 1)&&false)=true:=b
   simp at b
  have n1:¬(isV l n 1=false∧(rD s l w.data.toList).isNone=true):=by rw[hact];simp
  refine x.call [0] Z tR Z (gN s l n c 1) Z ⟨⟨Z,Z⟩,Z,tR⟩ ⟨⟨Z,ah Z,Z,Z,tR⟩,tR⟩ ?_
  refine x.oU [0] Z tR Z (λ_=>dG s l n c hl (by omega) 1 (by omega)) Z ⟨⟨Z,Z⟩,Z,tR⟩ ⟨⟨Z,ah Z,Z,Z,tR⟩,tR⟩ ⟨⟨Z,ah Z,Z,Z,tR⟩,⟨Z,Z,Z,Z,Z,Z,Z,Z,Z,Z,tR⟩,⟨Z,Z,Z,Z,Z,Z,Z,Z,Z,tR⟩,⟨Z,Z,Z,λ_ _=>rfl⟩,⟨Z,Z,Z,λ_ _=>rfl⟩,⟨Z,Z,Z,Z,Z,tR,tR,Z,Z,tR⟩,tR⟩ ?_
  refine x.cond Z tR (λb2=>?_) (λb2=>?_)
  ·have b2:(isV l n 1&&!decide ((txV s l (n+1)).data.toList=[61]))=true:=b2
   have b2:isV l n 1=true∧¬(txV s l (n+1)).data.toList=[61]:=by simpa using b2
   refine x.die [0] Z (by simp only[ak,aj];omega) Z BM ⟨⟨Z,Z⟩,Z,tR⟩ Z ⟨⟨Z,ah Z,ei,Z,tR⟩,tR⟩ ?_
   rw[bN,hw,if_neg n1,if_pos b2]
   exact⟨Z,Z⟩
  have b2:(isV l n 1&&!decide ((txV s l (n+1)).data.toList=[61]))=false:=b2
  have n2:¬(isV l n 1=true∧¬(txV s l (n+1)).data.toList=[61]):=λhh=>by rw[hh.1,decide_eq_false hh.2] at b2;cases b2
  by_cases h3:4096≤c
  ·rw[if_pos (by omega)] at hroom
   refine x.die [0] Z tR Z hroom ⟨⟨Z,Z⟩,Z,Z,tR⟩ Z ⟨⟨Z,ah Z,Z,Z,tR⟩,tR⟩ ?_
   rw[bN,hw,if_neg n1,if_neg n2,if_pos h3]
   exact⟨Z,Z⟩
  rw[if_neg (by omega)] at hroom
  refine x.call [0] Z tR Z hroom Z ⟨⟨Z,Z⟩,Z,Z,tR⟩ ⟨⟨Z,ah Z,Z,Z,tR⟩,tR⟩ ?_
  have hv:bN s l n c=wm s l (n+1) (aP (atV s l n)):=by rw[bN,hw,if_neg n1,if_neg n2,if_neg h3,hact]
  rw[hv]
  have h1:=Uw s l (n+1) (c+1) hl (by omega) (aP (atV s l n)) (Nat.zero_le _)
  obtain⟨V,hV⟩:∃V,wm s l (n+1) (aP (atV s l n))=V:=⟨_,Z⟩
  rw[hV] at h1 ⊢
  refine x.cond rfl (by simp only[ak,aj];omega) (λ_=>?_) (λb=>by cases b)
  rcases V with⟨a,b⟩ | ⟨n',y'⟩
  ·exact x.die [0,2,3,4] Z (by simp only[ak,aj];omega) Z h1 ⟨⟨Z,Z⟩,⟨Z,Z⟩,tR⟩ Z ⟨⟨Z,ah Z,ei,ej,tR⟩,⟨Z,Z,Z,Z,Z,Z,Z,Z,Z,tR⟩,⟨Z,Z,Z,λj hj=>absurd hj (afN _)⟩,⟨Z,Z,Z,λj hj=>absurd hj (afN _)⟩,tR⟩ ⟨Z,Z⟩
  ·refine x.call [0,2,3,4] Z (by simp only[ak,aj];omega) Z h1 Z ⟨⟨Z,Z⟩,⟨Z,Z⟩,tR⟩ ⟨⟨Z,ah Z,ei,ej,tR⟩,⟨Z,Z,Z,Z,Z,Z,Z,Z,Z,tR⟩,⟨Z,Z,Z,λj hj=>absurd hj (afN _)⟩,⟨Z,Z,Z,λj hj=>absurd hj (afN _)⟩,tR⟩ ?_
   refine x.exit Z tR ?_
   exact⟨.inr Z,⟨Z,Z,Z,Z,Z,Z,Z,Z,Z,tR⟩,⟨⟨Z,ah Z,Z,Z,tR⟩,⟨Z,Z,Z,λ_ _=>rfl⟩,⟨Z,Z,Z,λ_ _=>rfl⟩,tR⟩,Z⟩
 refine⟨λe=>?_,λg4=>?_⟩
 ·have lt:n<l.length:=jI (by rw[hw];exact e)
  have hact:rD s l w.data.toList=some (Dq s l):=by rw[e];rfl
  refine x.call [0] Z tR Z (gN s l n c 1) Z ⟨⟨Z,Z⟩,Z,tR⟩ ⟨⟨Z,ah Z,Z,Z,tR⟩,tR⟩ ?_
  refine x.cond Z tR (λb=>?_) (λb=>?_)
  ·have b:((!isV l n 1)&&false)=true:=b
   simp at b
  have n1:¬(isV l n 1=false∧(rD s l w.data.toList).isNone=true):=by rw[hact];simp
  refine x.call [0] Z tR Z (gN s l n c 1) Z ⟨⟨Z,Z⟩,Z,tR⟩ ⟨⟨Z,ah Z,Z,Z,tR⟩,tR⟩ ?_
  refine x.oU [0] Z tR Z (λ_=>dG s l n c hl (by omega) 1 (by omega)) Z ⟨⟨Z,Z⟩,Z,tR⟩ ⟨⟨Z,ah Z,Z,Z,tR⟩,tR⟩ ⟨⟨Z,ah Z,Z,Z,tR⟩,⟨Z,Z,Z,Z,Z,Z,Z,Z,Z,Z,tR⟩,⟨Z,Z,Z,Z,Z,Z,Z,Z,Z,tR⟩,⟨Z,Z,Z,λ_ _=>rfl⟩,⟨Z,Z,Z,λ_ _=>rfl⟩,⟨Z,Z,Z,Z,Z,tR,tR,Z,Z,tR⟩,tR⟩ ?_
  refine x.cond Z tR (λb2=>?_) (λb2=>?_)
  ·have b2:(isV l n 1&&!decide ((txV s l (n+1)).data.toList=[61]))=true:=b2
   have b2:isV l n 1=true∧¬(txV s l (n+1)).data.toList=[61]:=by simpa using b2
   refine x.die [0] Z (by simp only[ak,aj];omega) Z BM ⟨⟨Z,Z⟩,Z,tR⟩ Z ⟨⟨Z,ah Z,ei,Z,tR⟩,tR⟩ ?_
   rw[bN,hw,if_neg n1,if_pos b2]
   exact⟨Z,Z⟩
  have b2:(isV l n 1&&!decide ((txV s l (n+1)).data.toList=[61]))=false:=b2
  have n2:¬(isV l n 1=true∧¬(txV s l (n+1)).data.toList=[61]):=λhh=>by rw[hh.1,decide_eq_false hh.2] at b2;cases b2
  by_cases h3:4096≤c
  ·rw[if_pos (by omega)] at hroom
   refine x.die [0] Z tR Z hroom ⟨⟨Z,Z⟩,Z,Z,tR⟩ Z ⟨⟨Z,ah Z,Z,Z,tR⟩,tR⟩ ?_
   rw[bN,hw,if_neg n1,if_neg n2,if_pos h3]
   exact⟨Z,Z⟩
  rw[if_neg (by omega)] at hroom
  refine x.call [0] Z tR Z hroom Z ⟨⟨Z,Z⟩,Z,Z,tR⟩ ⟨⟨Z,ah Z,Z,Z,tR⟩,tR⟩ ?_
  have hv:bN s l n c=Dq s l (n+1) (aP (atV s l n)):=by rw[bN,hw,if_neg n1,if_neg n2,if_neg h3,hact]
  rw[hv]
  have h1:=Ux s l (n+1) (c+1) hl (by omega) (aP (atV s l n)) (Nat.zero_le _)
  obtain⟨V,hV⟩:∃V,Dq s l (n+1) (aP (atV s l n))=V:=⟨_,Z⟩
  rw[hV] at h1 ⊢
  refine x.cond rfl (by simp only[ak,aj];omega) (λ_=>?_) (λb=>by cases b)
  rcases V with⟨a,b⟩ | ⟨n',y'⟩
  ·exact x.die [0,2,3,4] Z (by simp only[ak,aj];omega) Z h1 ⟨⟨Z,Z⟩,⟨Z,Z⟩,tR⟩ Z ⟨⟨Z,ah Z,ei,ej,tR⟩,⟨Z,Z,Z,Z,Z,Z,Z,Z,Z,tR⟩,⟨Z,Z,Z,λj hj=>absurd hj (afN _)⟩,⟨Z,Z,Z,λj hj=>absurd hj (afN _)⟩,tR⟩ ⟨Z,Z⟩
  ·refine x.call [0,2,3,4] Z (by simp only[ak,aj];omega) Z h1 Z ⟨⟨Z,Z⟩,⟨Z,Z⟩,tR⟩ ⟨⟨Z,ah Z,ei,ej,tR⟩,⟨Z,Z,Z,Z,Z,Z,Z,Z,Z,tR⟩,⟨Z,Z,Z,λj hj=>absurd hj (afN _)⟩,⟨Z,Z,Z,λj hj=>absurd hj (afN _)⟩,tR⟩ ?_
   refine x.exit Z tR ?_
   exact⟨.inr Z,⟨Z,Z,Z,Z,Z,Z,Z,Z,Z,tR⟩,⟨⟨Z,ah Z,Z,Z,tR⟩,⟨Z,Z,Z,λ_ _=>rfl⟩,⟨Z,Z,Z,λ_ _=>rfl⟩,tR⟩,Z⟩
 have hact:rD s l w.data.toList=none:=by rw[rD,if_neg g0,if_neg g1,if_neg g2,if_neg g3,if_neg g4]
 refine x.call [0] Z tR Z (gN s l n c 1) Z ⟨⟨Z,Z⟩,Z,tR⟩ ⟨⟨Z,ah Z,Z,Z,tR⟩,tR⟩ ?_
 refine x.cond Z tR (λb=>?_) (λb=>?_)
 ·have b:((!isV l n 1)&&true)=true:=b
  have b:isV l n 1=false:=by simpa using b
  refine x.die [0] Z tR Z (lF s l n c (by omega) 7) ⟨⟨Z,Z⟩,Z,tR⟩ Z ⟨⟨Z,ah Z,Z,Z,tR⟩,tR⟩ ?_
  rw[bN,hw,hact,if_pos ⟨b,Z⟩]
  exact⟨Z,Z⟩
 have b:((!isV l n 1)&&true)=false:=b
 have b:isV l n 1=true:=by simpa using b
 have n1:¬(isV l n 1=false∧(rD s l w.data.toList).isNone=true):=by rw[b];simp
 refine x.call [0] Z tR Z (gN s l n c 1) Z ⟨⟨Z,Z⟩,Z,tR⟩ ⟨⟨Z,ah Z,Z,Z,tR⟩,tR⟩ ?_
 refine x.oU [0] Z tR Z (λ_=>dG s l n c hl (by omega) 1 (by omega)) Z ⟨⟨Z,Z⟩,Z,tR⟩ ⟨⟨Z,ah Z,Z,Z,tR⟩,tR⟩ ⟨⟨Z,ah Z,Z,Z,tR⟩,⟨Z,Z,Z,Z,Z,Z,Z,Z,Z,Z,tR⟩,⟨Z,Z,Z,Z,Z,Z,Z,Z,Z,tR⟩,⟨Z,Z,Z,λ_ _=>rfl⟩,⟨Z,Z,Z,λ_ _=>rfl⟩,⟨Z,Z,Z,Z,Z,tR,tR,Z,Z,tR⟩,tR⟩ ?_
 refine x.cond Z tR (λb2=>?_) (λb2=>?_)
 ·have b2:(isV l n 1&&!decide ((txV s l (n+1)).data.toList=[61]))=true:=b2
  have b2:isV l n 1=true∧¬(txV s l (n+1)).data.toList=[61]:=by simpa using b2
  refine x.die [0] Z (by simp only[ak,aj];omega) Z BM ⟨⟨Z,Z⟩,Z,tR⟩ Z ⟨⟨Z,ah Z,ei,Z,tR⟩,tR⟩ ?_
  rw[bN,hw,if_neg n1,if_pos b2]
  exact⟨Z,Z⟩
 have b2:(isV l n 1&&!decide ((txV s l (n+1)).data.toList=[61]))=false:=b2
 have n2:¬(isV l n 1=true∧¬(txV s l (n+1)).data.toList=[61]):=λhh=>by rw[hh.1,decide_eq_false hh.2] at b2;cases b2
 by_cases h3:4096≤c
 ·rw[if_pos (by omega)] at hroom
  refine x.die [0] Z tR Z hroom ⟨⟨Z,Z⟩,Z,Z,tR⟩ Z ⟨⟨Z,ah Z,Z,Z,tR⟩,tR⟩ ?_
  rw[bN,hw,if_neg n1,if_neg n2,if_pos h3]
  exact⟨Z,Z⟩
 rw[if_neg (by omega)] at hroom
 refine x.call [0] Z tR Z hroom Z ⟨⟨Z,Z⟩,Z,Z,tR⟩ ⟨⟨Z,ah Z,Z,Z,tR⟩,tR⟩ ?_
 have lt:=dB b
 have h61:(txV s l (n+1)).data.toList=[61]:=Classical.byContradiction λhh=>n2 ⟨b,hh⟩
 have lt2:=jI h61
 have hv:bN s l n c=dU s l (n+1+1) {aP (atV s l n) with dst:=w}:=by
  rw[bN,hw,if_neg n1,if_neg n2,if_neg h3,hact]
  simp only[nmV,dY,bnd,b,h61,if_true,hw]
 rw[hv]
 refine x.cond rfl (by simp only[ak,aj];omega) (λb=>by cases b) (λ_=>?_)
 have h1:=aY s l n (c+1) hl (by omega)
 rw[b,if_pos Z,hw] at h1
 refine x.call [0] Z tR Z h1 Z ⟨⟨Z,Z⟩,tR⟩ ⟨⟨Z,ah Z,Z,ej,tR⟩,tR⟩ ?_
 have h2:=jk s l (n+1) (c+1) hl (by omega) ⟨#[61]⟩
 rw[if_pos h61] at h2
 refine x.call [0] Z tR Z h2 Z ⟨⟨Z,Z⟩,Z,tR⟩ ⟨⟨Z,ah Z,Z,Z,tR⟩,tR⟩ ?_
 have h4:=MP s l (n+1+1) (c+1) hl (by omega) {aP (atV s l n) with dst:=w} (Nat.zero_le _) (Nat.zero_le _)
 obtain⟨V,hV⟩:∃V,dU s l (n+1+1) {aP (atV s l n) with dst:=w}=V:=⟨_,Z⟩
 rw[hV] at h4 ⊢
 rcases V with⟨a,b⟩ | ⟨n',y'⟩
 ·exact x.die [0,2,3,4] Z tR Z h4 ⟨⟨Z,Z⟩,⟨Z,Z⟩,tR⟩ Z ⟨⟨Z,ah Z,Z,Z,tR⟩,⟨Z,Z,Z,Z,Z,Z,Z,Z,Z,tR⟩,⟨Z,Z,Z,λj hj=>absurd hj (afN _)⟩,⟨Z,Z,Z,λj hj=>absurd hj (afN _)⟩,tR⟩ ⟨Z,Z⟩
 ·refine x.call [0,2,3,4] Z tR Z h4 Z ⟨⟨Z,Z⟩,⟨Z,Z⟩,tR⟩ ⟨⟨Z,ah Z,Z,Z,tR⟩,⟨Z,Z,Z,Z,Z,Z,Z,Z,Z,tR⟩,⟨Z,Z,Z,λj hj=>absurd hj (afN _)⟩,⟨Z,Z,Z,λj hj=>absurd hj (afN _)⟩,tR⟩ ?_
  refine x.exit Z tR ?_
  exact⟨.inr Z,⟨Z,Z,Z,Z,Z,Z,Z,Z,Z,tR⟩,⟨⟨Z,ah Z,Z,Z,tR⟩,⟨Z,Z,Z,λ_ _=>rfl⟩,⟨Z,Z,Z,λ_ _=>rfl⟩,tR⟩,Z⟩
end
end Go.Proofs.YtojhdmfkfkfcbaaGreatDoor
namespace Go.Proofs.YtojhdmfkfkfcbaaGreatDoor
open Go.Sx
def Up{α:Type}(l:List Tok)(n:Nat)(r:Except (Int×Int) (Nat×α)):Prop:=∀n' x,r=.ok (n',x)->n<n'∧n'≤l.length
def Upw{α:Type}(l:List Tok)(n:Nat)(r:Except (Int×Int) (Nat×α)):Prop:=∀n' x,r=.ok (n',x)->n≤n'∧n'≤l.length
section
variable{α β:Type}{s:BY}{l:List Tok}{n:Nat}
theorem Up.weak{r:Except (Int×Int) (Nat×α)}(h:Up l n r):Upw l n r:=λn' x e=>⟨Nat.le_of_lt (h n' x e).1,(h n' x e).2⟩
theorem rE{e:Int×Int}:Up (α:=α) l n (.error e):=λn' x h=>by cases h
theorem uo{x:α}(h:n≤l.length):Upw l n (.ok (n,x)):=λn' y e=>by
 simp only[Except.ok.injEq,afO] at e
 omega
theorem iy{r:Except (Int×Int) (Nat×α)}{k:Nat->α->Except (Int×Int) (Nat×β)}(h1:Up l n r)(h2:∀n' a,n<n'->n'≤l.length->Upw l n' (k n' a)):Up l n (bnd r k):=λn' x e=>by
 rcases r with e1 | ⟨n1,a⟩
 ·cases e
 ·obtain⟨p1,p2⟩:=h1 n1 a Z
  obtain⟨q1,q2⟩:=h2 n1 a p1 p2 n' x e
  exact⟨by omega,q2⟩
theorem PX{x:α}(h:n<l.length):Up l n (.ok (n+1,x)):=λn' y e=>by
 simp only[Except.ok.injEq,afO] at e
 omega
theorem pO:Up l n (nmV s l n):=by
 unfold nmV
 split
 ·rename_i h;exact PX (dB h)
 ·exact rE
theorem uq{b:UInt8}:Up l n (dY s l n b):=by
 unfold dY
 split
 ·rename_i h;exact PX (jI h)
 ·exact rE
theorem yO{x:Ins}:Up l n (lZ s l n x):=iy pO λn' a _ h=>uo h
theorem XV{x:Ins}:Up l n (nL s l n x):=iy pO λn' a _ h=>uo h
theorem Km{x:Ins}:Up l n (um s l n x):=iy pO λn' a _ h=>uo h
theorem Z8{x:Ins}:Up l n (wh s l n x):=iy pO λ_ _ _ _=>(iy yO λ_ _ _ _=>(iy yO λ_ _ _ h=>uo h).weak).weak
theorem Z9{x:Ins}:Up l n (xY s l n x):=iy pO λ_ _ _ _=>(iy yO λ_ _ _ h=>uo h).weak
theorem aac{x:Ins}:Up l n (Ab s l n x):=iy pO λ_ _ _ h=>uo h
theorem aad{x:Ins}:Up l n (wm s l n x):=iy yO λ_ _ _ _=>(iy pO λ_ _ _ _=>(iy pO λ_ _ _ h=>uo h).weak).weak
theorem aae{x:Ins}:Up l n (Dq s l n x):=iy yO λ_ _ _ h=>uo h
theorem XW{x:Ins}:Up l n (rC s l n x):=by
 unfold rC
 split
 ·rename_i h;exact PX (dB h)
 ·exact rE
theorem MR{b:UInt8}{r:Except (Int×Int) (Nat×α)}(h:Up l n r):Up l n (kW s l b r):=by
 rcases r with e | ⟨n1,a⟩
 ·exact rE
 ·unfold kW
  dsimp only
  split
  ·rename_i hb
   obtain⟨p1,p2⟩:=h n1 a Z
   intro n' x e
   have:=jI hb
   simp only[Except.ok.injEq,afO] at e
   omega
  ·exact rE
theorem Ac:Up l n (iX s l n):=by
 unfold iX
 split
 ·rename_i h
  have h1:=jI h
  split
  ·rename_i h2
   have h3:=jI h2
   intro n' x e
   simp only[Except.ok.injEq,afO] at e
   omega
  ·refine MR λn' x e=>?_
   obtain⟨p1,p2,_⟩:=BK e
   exact⟨by omega,p1⟩
 ·exact rE
theorem XY{x:Ins}:Up l n (yN s l n x):=Km
theorem aaf{x:Ins}:Up l n (Dr s l n x):=iy Km λ_ _ _ _=>(iy Ac λ_ _ _ h=>uo h).weak
theorem PY{x:Ins}:Up l n (nM s l n x):=iy XV λ_ _ _ _=>Km.weak
theorem RQ{k:Int}{x:Ins}:Up l n (cellV k s l n x):=iy Km λ_ _ _ _=>XV.weak
theorem acv{x:Ins}:Up l n (MO s l n x):=iy uq λ_ _ _ _=>(MR λn' x e=>by
 obtain⟨p1,p2⟩:=BL e
 exact⟨p1,p2⟩).weak
theorem oq{r:Except (Int×Int) (Nat×α)}(h:Up l (n+1) r):Up l n r:=λn' x e=>⟨by have:=(h n' x e).1;omega,(h n' x e).2⟩
theorem aag{x:Ins}{w:List UInt8}:Up l n (Dt s l n x w):=by
 unfold Dt
 split
 ·exact oq XW
 split
 ·exact oq RQ
 split
 ·exact oq RQ
 split
 ·exact oq XY
 split
 ·exact oq aaf
 split
 ·exact oq PY
 split
 ·exact oq acv
 ·exact rE
theorem XZ{x:Ins}:Up l n (dU s l n x):=by
 unfold dU
 split
 ·exact oq (iy yO λ_ _ _ _=>yO.weak)
 ·exact aag
theorem acw{w:List UInt8}{f:Nat->Ins->Except (Int×Int) (Nat×Ins)}(h:rD s l w=some f){x:Ins}:Up l n (f n x):=by
 unfold rD at h
 split at h
 ·cases h;exact Z8
 split at h
 ·cases h;exact Z9
 split at h
 ·cases h;exact aac
 split at h
 ·cases h;exact aad
 split at h
 ·cases h;exact aae
 ·cases h
theorem F7{c:Nat}:Up l n (bN s l n c):=by
 unfold bN
 split
 ·exact rE
 split
 ·exact rE
 split
 ·exact rE
 cases h:rD s l (txV s l n).data.toList with
 | some f=>exact oq (acw h)
 | none=>exact iy pO λ_ _ _ _=>(iy uq λ_ _ _ _=>XZ.weak).weak
theorem RU{c n':Nat}{x:Ins}(h:bN s l n c=.ok (n',x)):c<4096:=by
 unfold bN at h
 split at h
 ·cases h
 split at h
 ·cases h
 split at h
 ·cases h
 ·omega
end
end Go.Proofs.YtojhdmfkfkfcbaaGreatDoor
namespace Go.Proofs.YtojhdmfkfkfcbaaGreatDoor
open Go.Sx
set_option maxRecDepth 100000
theorem jy{c:Prop}[Decidable c](h:c):∀(ps qs:List D),ps.length=qs.length->cK c ps qs=ps
 | [],[],_=>by simp [cK]
 | a::ps,b::qs,e=>by rw[cK,vg h,jy h ps qs (by simpa using e)]
 | [],_::_,e=>by simp at e
 | _::_,[],e=>by simp at e
theorem jA{c:Prop}[Decidable c](h:¬c):∀(ps qs:List D),ps.length=qs.length->cK c ps qs=qs
 | [],[],_=>by simp [cK]
 | a::ps,b::qs,e=>by rw[cK,vo h,jA h ps qs (by simpa using e)]
 | [],_::_,e=>by simp at e
 | _::_,[],e=>by simp at e
theorem wZ{α:Type}(d:α->List D)(N:Nat)(hd:∀a,(d a).length=N)(x0:α)(xs:List α)(x:α)(j:Nat)(hj:j<xs.length+1):app xs.length (λi=>d (xs.getD i x0)) (λ_=>d x) j=d ((xs++[x]).getD j x0):=by
 unfold app
 show cK (j<xs.length) (d (xs.getD j x0)) (d x)=_
 by_cases h:j<xs.length
 ·rw[jy h _ _ (by rw[hd,hd]),afE,afE,List.getElem?_append_left h]
 ·have e:j=xs.length:=by omega
  rw[jA h _ _ (by rw[hd,hd]),afE (l:=xs++[x]),List.getElem?_append_right (by omega),e,Nat.sub_self]
  rfl
abbrev aZ(o:List BY):D:=.sl 1 o.length λi=>[.str (o.getD i .empty)]
abbrev MS(x:Ins):List D:=[.int .u8 x.kind,.int .u8 x.op,.str x.dst,.str x.ref,.str x.alt,aZ x.args,aZ x.frm,.int .i64 x.num,.int .i64 x.at_]
abbrev F8(xs:List Ins):Ch:=.vec 87 9 xs.length λi=>MS (xs.getD i (aP 0))
def codeF(s:BY)(l:List Tok):Nat->Nat->Nat->List Ins->Except (Int×Int) (Nat×(Nat×List Ins))
 | 0,_,_,_=>.error (0,0)
 | f+1,n,c,xs=>
  if (txV s l n).data.toList=[125]∨H7 s l n=true then .ok (n,(c,xs))
  else bnd (bN s l n c) λn x=>codeF s l f n (c+1) (xs++[x])
structure Blk where
 name:BY
 code:List Ins
 at_:Int
def gI(s:BY)(l:List Tok)(n c:Nat):Except (Int×Int) (Nat×(Nat×Blk)):=
 bnd (nmV s l n) λn1 nm=>bnd (dY s l n1 58) λn2 _=>bnd (codeF s l 4098 n2 c []) λn3 r=>.ok (n3,(r.1,⟨nm,r.2,atV s l n⟩))
def acy(s:BY)(l:List Tok):Except (Int×Int) (Nat×(Nat×Blk))->Out
 | .ok (n,(c,b))=>.ret (.agg [vs b.name,.own 1,vi b.at_]) [pC s l n c,F8 b.code]
 | .error (a,e)=>xJ a e
structure BW7 (s:BY) (l:List Tok) (R:Except (Int×Int) (Nat×(Nat×List Ins))) where
 f:Nat
 n:Nat
 c:Nat
 xs:List Ins
 hf:4098≤f+c
 hn:n≤l.length
 hc:c≤4096
 hx:xs.length≤c
 same:codeF s l f n c xs=R
section
variable(s:BY)(l:List Tok)(n c:Nat)(hl:qz s l)(hn:n≤l.length)(hc:c≤4096)
include hl hn hc in
theorem Du:aX PG 96 1 [.ptr 0 0] [pC s l n c] (acy s l (gI s l n c)):=by
 have hll:=hl.2.1
 refine aX.mk (dM 27 1) av [0,3] Tryz.func96 rfl (by kernel_rfl) rfl rfl (by rcases gI s l n c with⟨a,e⟩ | ⟨n',c',o⟩<;>rfl) ?_
 intro C x
 refine x.call [0] Z tR Z (z8 s l n c (by omega)) Z ⟨⟨Z,Z⟩,tR⟩ ⟨⟨Z,ah Z,Z,Z,tR⟩,tR⟩ ?_
 have h1:=aY s l n c hl (by omega)
 cases e1:isV l n 1 with
 | false=>
  rw[e1,if_neg (by simp)] at h1
  refine x.die [0] Z tR Z h1 ⟨⟨Z,Z⟩,tR⟩ Z ⟨⟨Z,ah Z,Z,Z,tR⟩,tR⟩ ?_
  simp only[gI,nmV,bnd,e1,if_true,afS,if_false]
  exact⟨Z,Z⟩
 | true=>
  rw[e1,if_pos rfl] at h1
  have l1:=dB e1
  refine x.call [0] Z tR Z h1 Z ⟨⟨Z,Z⟩,tR⟩ ⟨⟨Z,ah Z,Z,Z,tR⟩,tR⟩ ?_
  have h2:=jk s l (n+1) c hl (by omega) ⟨#[58]⟩
  by_cases e2:(txV s l (n+1)).data.toList=[58]
  ·rw[if_pos e2] at h2
   have l2:=jI e2
   refine x.call [0] Z tR Z h2 Z ⟨⟨Z,Z⟩,Z,tR⟩ ⟨⟨Z,ah Z,Z,Z,tR⟩,tR⟩ ?_
   obtain⟨R,hR⟩:∃R,codeF s l 4098 (n+1+1) c []=R:=⟨_,Z⟩
   have hV:gI s l n c=bnd R λn3 r=>.ok (n3,(r.1,⟨txV s l n,r.2,atV s l n⟩)):=by
    simp only[gI,nmV,dY,bnd,e1,e2,if_true,hR]
   rw[hV]
   refine x.toLoop Z tR ?_
   refine Go.ownB 2 1 87 9 (λi=>MS (([]:List Ins).getD i (aP 0))) Z Z ?_
   refine x.loop (α:=BW7 s l R) (λy=>⟨[(0,.ptr 0 0),(2,.ptr 1 0),(3,.ptr 2 0)],[(0,pC s l y.n y.c),(1,.box [vs .empty,.aF,vi 0]),(2,.box [vs (txV s l n),.own 3,vi (atV s l n)]),(3,F8 y.xs)],4⟩) (λy=>y.f) ⟨4098,n+1+1,c,[],by omega,by omega,hc,Nat.zero_le _,hR⟩ Z tR ⟨⟨⟨Z,Z⟩,⟨Z,Z⟩,⟨Z,Z⟩,tR⟩,⟨⟨Z,ah Z,Z,Z,tR⟩,⟨Z,tR,Z,tR⟩,⟨Z,Z,Z,tR⟩,⟨Z,Z,Z,λj hj=>absurd hj (afN _)⟩,tR⟩,Z⟩ (λy=>?_)
   obtain⟨f,m,c,xs,hf,hm,hc,hx,same⟩:=y
   change Go C _ ⟨[(0,.ptr 0 0),(2,.ptr 1 0),(3,.ptr 2 0)],[(0,pC s l m c),(1,.box [vs .empty,.aF,vi 0]),(2,.box [vs (txV s l n),.own 3,vi (atV s l n)]),(3,F8 xs)],4⟩ _
   obtain⟨f,rfl⟩:∃f',f=f'+1:=⟨f-1,by omega⟩
   rw[codeF] at same
   refine x.call [0] Z tR Z (dG s l m c hl (by omega) 0 (by omega)) Z ⟨⟨Z,Z⟩,Z,tR⟩ ⟨⟨Z,ah Z,Z,Z,tR⟩,tR⟩ ?_
   refine x.oU [0] Z tR Z (λ_=>Dn s l m c hl (by omega)) Z ⟨⟨Z,Z⟩,tR⟩ ⟨⟨Z,ah Z,Z,Z,tR⟩,tR⟩ ⟨⟨Z,ah Z,Z,Z,tR⟩,⟨Z,tR,Z,tR⟩,⟨Z,Z,Z,tR⟩,⟨Z,Z,Z,λ_ _=>rfl⟩,tR⟩ ?_
   refine x.cond Z tR (λb=>?_) (λb=>?_)
   ·have b:((!decide ((txV s l m).data.toList=[125]))&&!H7 s l m)=true:=b
    have b:¬((txV s l m).data.toList=[125]∨H7 s l m=true):=by simpa using b
    rw[if_neg b] at same
    have h3:=MQ s l m c hl hm (by omega)
    obtain⟨V,hW⟩:∃V,bN s l m c=V:=⟨_,Z⟩
    rw[hW] at h3 same
    rcases V with⟨a,e⟩ | ⟨n',x'⟩
    ·refine x.draw [0] [2] [0,1] [3,4] [5,6,7] Z tR ay (by kernel_rfl) gD.quiet Z tR (λC1 x1=>?_)
     refine x1.die [0] Z tR Z h3 ⟨⟨Z,Z⟩,tR⟩ Z ⟨⟨Z,ah Z,Z,Z,tR⟩,tR⟩ ⟨⟨_,Z⟩,Z,?_⟩
     rw[←same]
     exact⟨Z,Z⟩
    ·obtain⟨p1,p2⟩:=F7 _ _ hW
     have p3:=RU hW
     simp only[bnd] at same
     refine x.draw [0] [2] [0,1] [3,4] [5,6,7] Z tR ay (by kernel_rfl) gD.quiet Z tR (λC1 x1=>?_)
     refine x1.call [0] Z tR Z h3 Z ⟨⟨Z,Z⟩,tR⟩ ⟨⟨Z,ah Z,Z,Z,tR⟩,tR⟩ ?_
     refine Sx.Go.freeze 4 ?_
     refine Sx.Go.freeze 5 ?_
     refine x1.back Z tR ?_
     refine x1.back Z tR ?_
     refine x.back Z ?_ ⟨⟨f,n',c+1,xs++[x'],by omega,p2,by omega,by rw[List.length_append];simp only[List.length_cons,List.length_nil];omega,same⟩,by show f<f+1;omega,⟨⟨Z,Z⟩,⟨Z,Z⟩,⟨Z,Z⟩,tR⟩,⟨⟨Z,ah Z,Z,Z,tR⟩,⟨Z,tR,Z,tR⟩,⟨Z,Z,Z,tR⟩,⟨Z,Z,by simp,λj hj=>wZ MS 9 (λ_=>rfl) (aP 0) xs x' j hj⟩,tR⟩,Z⟩
     simp only[ak,big];omega
   ·have b:((!decide ((txV s l m).data.toList=[125]))&&!H7 s l m)=false:=b
    have b:(txV s l m).data.toList=[125]∨H7 s l m=true:=by
     refine Classical.byContradiction λhh=>?_
     simp only[not_or] at hh
     rw[decide_eq_false hh.1,(by simpa using hh.2:H7 s l m=false)] at b
     cases b
    rw[if_pos b] at same
    refine x.exit Z tR ?_
    rw[←same]
    exact⟨.inr Z,⟨Z,Z,Z,tR⟩,⟨⟨Z,ah Z,Z,Z,tR⟩,⟨Z,Z,Z,λ_ _=>rfl⟩,tR⟩,Z⟩
  ·rw[if_neg e2] at h2
   refine x.die [0] Z tR Z h2 ⟨⟨Z,Z⟩,Z,tR⟩ Z ⟨⟨Z,ah Z,Z,Z,tR⟩,tR⟩ ?_
   simp only[gI,nmV,dY,bnd,e1,e2,if_true,if_false]
   exact⟨Z,Z⟩
end
theorem RV{s:BY}{l:List Tok}:∀{f n c:Nat} {xs:List Ins} {n' c':Nat} {ys:List Ins},n≤l.length->c≤4096->codeF s l f n c xs=.ok (n',(c',ys))->n≤n'∧n'≤l.length∧c'≤4096
 | 0,n,c,xs,n',c',ys,hn,hc,h=>by simp [codeF] at h
 | f+1,n,c,xs,n',c',ys,hn,hc,h=>by
  rw[codeF] at h
  split at h
  ·simp only[Except.ok.injEq,afO] at h
   omega
  ·obtain⟨V,hV⟩:∃V,bN s l n c=V:=⟨_,Z⟩
   rw[hV] at h
   rcases V with e | ⟨n1,x⟩
   ·cases h
   ·obtain⟨p1,p2⟩:=F7 _ _ hV
    have p3:=RU hV
    obtain⟨q1,q2,q3⟩:=RV p2 (by omega) h
    exact⟨by omega,q2,q3⟩
theorem su{s:BY}{l:List Tok}{n c n' c':Nat}{b:Blk}(hc:c≤4096)(h:gI s l n c=.ok (n',(c',b))):n<n'∧n'≤l.length∧c'≤4096:=by
 unfold gI at h
 obtain⟨V,hV⟩:∃V,nmV s l n=V:=⟨_,Z⟩
 rw[hV] at h
 rcases V with e | ⟨n1,nm⟩
 ·cases h
 obtain⟨p1,p2⟩:=pO _ _ hV
 simp only[bnd] at h
 obtain⟨V,hV⟩:∃V,dY s l n1 58=V:=⟨_,Z⟩
 rw[hV] at h
 rcases V with e | ⟨n2,u⟩
 ·cases h
 obtain⟨q1,q2⟩:=uq _ _ hV
 simp only at h
 obtain⟨V,hV⟩:∃V,codeF s l 4098 n2 c []=V:=⟨_,Z⟩
 rw[hV] at h
 rcases V with e | ⟨n3,c3,ys⟩
 ·cases h
 obtain⟨r1,r2,r3⟩:=RV q2 hc hV
 simp only[Except.ok.injEq,afO] at h
 omega
abbrev nN(xs:List Ins):D:=.sl 9 xs.length λi=>MS (xs.getD i (aP 0))
abbrev Kn(b:Blk):List D:=[.str b.name,nN b.code,.int .i64 b.at_]
def bq:Blk:=⟨.empty,[],0⟩
abbrev Dv(bs:List Blk):Ch:=.vec 85 3 bs.length λi=>Kn (bs.getD i bq)
def gP(s:BY)(l:List Tok):Nat->Nat->Nat->List Blk->Except (Int×Int) (Nat×(Nat×List Blk))
 | 0,_,_,_=>.error (0,0)
 | f+1,n,c,bs=>
  if H7 s l n=true then
   if 64≤bs.length then .error (atV s l n,3)
   else bnd (gI s l n c) λn r=>gP s l f n r.1 (bs++[r.2])
  else .ok (n,(c,bs))
structure Fun where
 name:BY
 params:List BY
 blocks:List Blk
 at_:Int
def mK(s:BY)(l:List Tok)(n c:Nat):Except (Int×Int) (Nat×(Nat×Fun)):=
 bnd (nmV s l (n+1)) λn1 nm=>bnd (iX s l n1) λn2 ps=>bnd (dY s l n2 123) λn3 _=>bnd (gI s l n3 c) λn4 r=>
  bnd (gP s l 65 n4 r.1 [r.2]) λn5 q=>bnd (dY s l n5 125) λn6 _=>.ok (n6,(q.1,⟨nm,ps,q.2,atV s l n⟩))
def ae1(s:BY)(l:List Tok):Except (Int×Int) (Nat×(Nat×Fun))->Out
 | .ok (n,(c,b))=>.ret (.agg [vs b.name,.own 1,.own 2,vi b.at_]) [pC s l n c,iw b.params,Dv b.blocks]
 | .error (a,e)=>xJ a e
structure FW (s:BY) (l:List Tok) (R:Except (Int×Int) (Nat×(Nat×List Blk))) where
 f:Nat
 n:Nat
 c:Nat
 bs:List Blk
 hf:f+bs.length=66
 hb:bs.length≤64
 hn:n≤l.length
 hc:c≤4096
 same:gP s l f n c bs=R
section
variable(s:BY)(l:List Tok)(n c:Nat)(hl:qz s l)(hn:n<l.length)(hc:c≤4096)
include hl hn hc in
theorem F9:aX PG 47 1 [.ptr 0 0] [pC s l n c] (ae1 s l (mK s l n c)):=by
 have hll:=hl.2.1
 have ei:aB (vi ((n:Int)+1)) (vi ((n+1:Nat):Int)):=by rw[afQ];rfl
 refine aX.mk (dM 46 1) av [0,3,4] Tryz.func47 rfl (by kernel_rfl) rfl rfl (by rcases mK s l n c with⟨a,e⟩ | ⟨n',c',o⟩<;>rfl) ?_
 intro C x
 refine x.call [0] Z tR Z (z8 s l n c (by omega)) Z ⟨⟨Z,Z⟩,tR⟩ ⟨⟨Z,ah Z,Z,Z,tR⟩,tR⟩ ?_
 have h1:=aY s l (n+1) c hl (by omega)
 cases e1:isV l (n+1) 1 with
 | false=>
  rw[e1,if_neg (by simp)] at h1
  refine x.die [0] Z (by simp only[ak,aj];omega) Z h1 ⟨⟨Z,Z⟩,tR⟩ Z ⟨⟨Z,ah Z,ei,Z,tR⟩,tR⟩ ?_
  simp only[mK,nmV,bnd,e1,if_true,afS,if_false]
  exact⟨Z,Z⟩
 | true=>
 rw[e1,if_pos rfl] at h1
 have l1:=dB e1
 refine x.call [0] Z (by simp only[ak,aj];omega) Z h1 Z ⟨⟨Z,Z⟩,tR⟩ ⟨⟨Z,ah Z,ei,Z,tR⟩,tR⟩ ?_
 have h2:=Dp s l (n+1+1) c hl (by omega)
 obtain⟨N,hN⟩:∃N,iX s l (n+1+1)=N:=⟨_,Z⟩
 rw[hN] at h2
 rcases N with⟨a,e⟩ | ⟨n2,ps⟩
 ·refine x.die [0] Z tR Z h2 ⟨⟨Z,Z⟩,tR⟩ Z ⟨⟨Z,ah Z,Z,Z,tR⟩,tR⟩ ?_
  simp only[mK,nmV,bnd,e1,if_true,hN]
  exact⟨Z,Z⟩
 obtain⟨q1,q2⟩:=Ac _ _ hN
 refine x.call [0] Z tR Z h2 Z ⟨⟨Z,Z⟩,tR⟩ ⟨⟨Z,ah Z,Z,Z,tR⟩,tR⟩ ?_
 have h3:=jk s l n2 c hl (by omega) ⟨#[123]⟩
 by_cases e3:(txV s l n2).data.toList=[123]
 rotate_left
 ·rw[if_neg e3] at h3
  refine x.die [0] Z tR Z h3 ⟨⟨Z,Z⟩,Z,tR⟩ Z ⟨⟨Z,ah Z,Z,Z,tR⟩,tR⟩ ?_
  simp only[mK,nmV,dY,bnd,e1,e3,if_true,if_false,hN]
  exact⟨Z,Z⟩
 rw[if_pos e3] at h3
 have l3:=jI e3
 refine x.call [0] Z tR Z h3 Z ⟨⟨Z,Z⟩,Z,tR⟩ ⟨⟨Z,ah Z,Z,Z,tR⟩,tR⟩ ?_
 refine x.code Z tR ?_
 refine Go.ownB 2 2 85 3 (λi=>Kn (([]:List Blk).getD i bq)) Z Z ?_
 have h4:=Du s l (n2+1) c hl (by omega) hc
 obtain⟨B,hB⟩:∃B,gI s l (n2+1) c=B:=⟨_,Z⟩
 rw[hB] at h4
 rcases B with⟨a,e⟩ | ⟨n4,c4,b4⟩
 ·refine x.draw [0] [2] [0,1] [3,4] [5,6,7] Z tR ay (by kernel_rfl) gD.quiet Z tR (λC1 x1=>?_)
  refine x1.die [0] Z tR Z h4 ⟨⟨Z,Z⟩,tR⟩ Z ⟨⟨Z,ah Z,Z,Z,tR⟩,tR⟩ ⟨⟨_,Z⟩,Z,?_⟩
  simp only[mK,nmV,dY,bnd,e1,e3,if_true,hN,hB]
  exact⟨Z,Z⟩
 obtain⟨r1,r2,r3⟩:=su hc hB
 refine x.draw [0] [2] [0,1] [3,4] [5,6,7] Z tR ay (by kernel_rfl) gD.quiet Z tR (λC1 x1=>?_)
 refine x1.call [0] Z tR Z h4 Z ⟨⟨Z,Z⟩,tR⟩ ⟨⟨Z,ah Z,Z,Z,tR⟩,tR⟩ ?_
 refine Sx.Go.freeze 5 ?_
 refine x1.back Z tR ?_
 refine x1.back Z tR ?_
 obtain⟨R,hR⟩:∃R,gP s l 65 n4 c4 [b4]=R:=⟨_,Z⟩
 have hV:mK s l n c=bnd R λn5 q=>bnd (dY s l n5 125) λn6 _=>.ok (n6,(q.1,⟨txV s l (n+1),ps,q.2,atV s l n⟩)):=by
  simp only[mK,nmV,dY,bnd,e1,e3,if_true,hN,hB,hR]
 rw[hV]
 refine x.loop (α:=FW s l R) (λy=>⟨[(0,.ptr 0 0),(2,.ptr 1 0),(3,.ptr 2 0)],[(0,pC s l y.n y.c),(1,.box [vs .empty,.aF,.aF,vi 0]),(2,.box [vs (txV s l (n+1)),.own 3,.own 4,vi (atV s l n)]),(3,iw ps),(4,Dv y.bs)],5⟩) (λy=>y.f) ⟨65,n4,c4,[b4],Z,by simp,r2,r3,hR⟩ Z (by simp only[ak,big,List.length_cons,List.length_nil];omega) ⟨⟨⟨Z,Z⟩,⟨Z,Z⟩,⟨Z,Z⟩,tR⟩,⟨⟨Z,ah Z,Z,Z,tR⟩,⟨Z,tR,tR,Z,tR⟩,⟨Z,Z,Z,Z,tR⟩,⟨Z,Z,Z,λ_ _=>rfl⟩,⟨Z,Z,Z,λj hj=>wZ Kn 3 (λ_=>rfl) bq [] b4 j hj⟩,tR⟩,Z⟩ (λy=>?_)
 obtain⟨f,m,c,bs,hf,hb,hm,hc,same⟩:=y
 change Go C _ ⟨[(0,.ptr 0 0),(2,.ptr 1 0),(3,.ptr 2 0)],[(0,pC s l m c),(1,.box [vs .empty,.aF,.aF,vi 0]),(2,.box [vs (txV s l (n+1)),.own 3,.own 4,vi (atV s l n)]),(3,iw ps),(4,Dv bs)],5⟩ _
 obtain⟨f,rfl⟩:∃f',f=f'+1:=⟨f-1,by omega⟩
 rw[gP] at same
 refine x.call [0] Z tR Z (Dn s l m c hl (by omega)) Z ⟨⟨Z,Z⟩,tR⟩ ⟨⟨Z,ah Z,Z,Z,tR⟩,tR⟩ ?_
 refine x.cond Z tR (λb=>?_) (λb=>?_)
 ·have b:H7 s l m=true:=b
  rw[if_pos b] at same
  have h5:=oL s l m c (by omega) (bs.length:Int) 64
  by_cases h6:64≤bs.length
  ·rw[if_pos (by omega)] at h5
   rw[if_pos h6] at same
   refine x.die [0] Z tR Z h5 ⟨⟨Z,Z⟩,Z,Z,tR⟩ Z ⟨⟨Z,ah Z,Z,Z,tR⟩,tR⟩ ?_
   rw[←same]
   exact⟨Z,Z⟩
  rw[if_neg (by omega)] at h5
  rw[if_neg h6] at same
  refine x.call [0] Z tR Z h5 Z ⟨⟨Z,Z⟩,Z,Z,tR⟩ ⟨⟨Z,ah Z,Z,Z,tR⟩,tR⟩ ?_
  have h7:=Du s l m c hl hm hc
  obtain⟨V,hW⟩:∃V,gI s l m c=V:=⟨_,Z⟩
  rw[hW] at h7 same
  rcases V with⟨a,e⟩ | ⟨n',c',b'⟩
  ·refine x.draw [0] [2] [0,1] [3,4] [5,6,7] Z tR ay (by kernel_rfl) gD.quiet Z tR (λC1 x1=>?_)
   refine x1.die [0] Z tR Z h7 ⟨⟨Z,Z⟩,tR⟩ Z ⟨⟨Z,ah Z,Z,Z,tR⟩,tR⟩ ⟨⟨_,Z⟩,Z,?_⟩
   rw[←same]
   exact⟨Z,Z⟩
  ·obtain⟨p1,p2,p3⟩:=su hc hW
   simp only[bnd] at same
   refine x.draw [0] [2] [0,1] [3,4] [5,6,7] Z tR ay (by kernel_rfl) gD.quiet Z tR (λC1 x1=>?_)
   refine x1.call [0] Z tR Z h7 Z ⟨⟨Z,Z⟩,tR⟩ ⟨⟨Z,ah Z,Z,Z,tR⟩,tR⟩ ?_
   refine Sx.Go.freeze 5 ?_
   refine x1.back Z tR ?_
   refine x1.back Z tR ?_
   refine x.back Z (by simp only[ak,big,List.length_cons,List.length_nil];omega) ⟨⟨f,n',c',bs++[b'],by rw[List.length_append];simp only[List.length_cons,List.length_nil];omega,by rw[List.length_append];simp only[List.length_cons,List.length_nil];omega,p2,p3,same⟩,by show f<f+1;omega,⟨⟨Z,Z⟩,⟨Z,Z⟩,⟨Z,Z⟩,tR⟩,⟨⟨Z,ah Z,Z,Z,tR⟩,⟨Z,tR,tR,Z,tR⟩,⟨Z,Z,Z,Z,tR⟩,⟨Z,Z,Z,λ_ _=>rfl⟩,⟨Z,Z,by simp,λj hj=>wZ Kn 3 (λ_=>rfl) bq bs b' j hj⟩,tR⟩,Z⟩
 ·have b:H7 s l m=false:=b
  rw[b,if_neg (by simp)] at same
  have h8:=jk s l m c hl (by omega) ⟨#[125]⟩
  by_cases e8:(txV s l m).data.toList=[125]
  ·rw[if_pos e8] at h8
   refine x.call [0] Z tR Z h8 Z ⟨⟨Z,Z⟩,Z,tR⟩ ⟨⟨Z,ah Z,Z,Z,tR⟩,tR⟩ ?_
   refine x.exit Z tR ?_
   rw[←same,bnd,dY,if_pos e8]
   exact⟨.inr Z,⟨Z,Z,Z,Z,tR⟩,⟨⟨Z,ah Z,Z,Z,tR⟩,⟨Z,Z,Z,λ_ _=>rfl⟩,⟨Z,Z,Z,λ_ _=>rfl⟩,tR⟩,Z⟩
  ·rw[if_neg e8] at h8
   refine x.die [0] Z tR Z h8 ⟨⟨Z,Z⟩,Z,tR⟩ Z ⟨⟨Z,ah Z,Z,Z,tR⟩,tR⟩ ?_
   rw[←same,bnd,dY,if_neg e8]
   exact⟨Z,Z⟩
end
theorem pQ(f1 f2:Nat->List D)(a e:Int):Later PG 43 [.ptr 0 0,.ptr 1 0,.ptr 2 0] [.box [.dead,.dead],.box [.dead],.box [.dead]] (.pan Dm [(.i64,a),(.i64,e)]) [.box [.d (.sl 4 0 f1),.d (.sl 4 0 f2)],.box [vi a],.box [vi e]]:=by
 refine Later.mk (dM 22 3) av [0,1,2] Tryz.func43 Z (by kernel_rfl) Z Z Z Z Z Z Z Z Z Z ?_
 intro C x
 refine x.cond Z tR (λh=>?_) (λh=>?_)
 rotate_left
 ·cases h
 refine x.cond Z tR (λh=>?_) (λh=>?_)
 ·cases h
 refine x.draw [0,1] [] [0,1,2,3,4] [5,6] [7] Z tR ay (by kernel_rfl) (NoPanic.quiet Ret.bP) Z tR (λC1 x1=>?_)
 refine x1.back Z tR ?_
 refine x1.back Z tR ?_
 refine x.exit Z tR ?_
 exact⟨.inl Z,tR,⟨⟨Z,Z,tR⟩,⟨Z,tR⟩,⟨Z,tR⟩,tR⟩,Z⟩
theorem MU(z1 n1 z2 n2:Nat)(f1 f2:Nat->List D)(a e:Int):Later PG 43 [.ptr 0 0,.ptr 1 0,.ptr 2 0] [.box [.d (.sl z1 n1 f1),.d (.sl z2 n2 f2)],.box [vi a],.box [vi e]] .back [.box [.d (.sl z1 n1 f1),.d (.sl z2 n2 f2)],.box [vi a],.box [vi e]]:=by
 refine Later.mk (dM 22 3) av [0,1,2] Tryz.func43 Z (by kernel_rfl) Z Z Z Z Z Z Z Z Z Z ?_
 intro C x
 refine x.cond Z tR (λh=>?_) (λh=>?_)
 ·cases h
 refine x.exit Z tR ?_
 exact⟨.inl Z,tR,⟨⟨ah Z,ah Z,tR⟩,⟨Z,tR⟩,⟨Z,tR⟩,tR⟩,Z⟩
abbrev gQ(bs:List Blk):D:=.sl 3 bs.length λi=>Kn (bs.getD i bq)
abbrev yP(f:Fun):List D:=[.str f.name,aZ f.params,gQ f.blocks,.int .i64 f.at_]
abbrev yQ(a:Arr):List D:=[.str a.name,.int .i64 a.size,.str a.level,.int .i64 a.at_]
def bG:Fun:=⟨.empty,[],[],0⟩
def bR:Arr:=⟨.empty,0,.empty,0⟩
abbrev sw(fs:List Fun):Ch:=.vec 82 4 fs.length λi=>yP (fs.getD i bG)
abbrev Ga(xs:List Arr):Ch:=.vec 78 4 xs.length λi=>yQ (xs.getD i bR)
abbrev dn(fs:List Fun):D:=.sl 4 fs.length λi=>yP (fs.getD i bG)
abbrev bV(xs:List Arr):D:=.sl 4 xs.length λi=>yQ (xs.getD i bR)
abbrev xD(x:Ins):V:=.agg [.d (.int .u8 x.kind),.d (.int .u8 x.op),vs x.dst,vs x.ref,vs x.alt,.d (aZ x.args),.d (aZ x.frm),vi x.num,vi x.at_]
abbrev fnV(f:Fun):V:=.agg [vs f.name,.d (aZ f.params),.d (gQ f.blocks),vi f.at_]
structure Prg where
 arrays:List Arr
 funcs:List Fun
abbrev H8(p:Prg):V:=.agg [.d (bV p.arrays),.d (dn p.funcs)]
def pR(s:BY)(l:List Tok):Nat->Nat->Nat->Prg->Except (Int×Int) (Nat×Prg)
 | 0,_,_,_=>.error (0,0)
 | f+1,n,c,p=>
  if n<l.length then
   if (txV s l n).data.toList=[97,114,114,97,121] then
    if 16≤p.arrays.length then .error (atV s l n,3)
    else bnd (xK s l n) λn x=>pR s l f n c ⟨p.arrays++[x],p.funcs⟩
   else if (txV s l n).data.toList=[102,110] then
    if 64≤p.funcs.length then .error (atV s l n,3)
    else bnd (mK s l n c) λn r=>pR s l f n r.1 ⟨p.arrays,p.funcs++[r.2]⟩
   else .error (atV s l n,7)
  else .ok (n,p)
def ae2:Except (Int×Int) (Nat×Prg)->Prg×Int×Int
 | .ok (_,p)=>(p,0,0)
 | .error (a,e)=>(⟨[],[]⟩,a,e)
def bY(s:BY):Prg×Int×Int:=
 if (fG s).2.2=0 then ae2 (pR s (fG s).1 ((fG s).1.length+1) 0 0 ⟨[],[]⟩) else (⟨[],[]⟩,(fG s).2.1,(fG s).2.2)
theorem acz{s:BY}{l:List Tok}{n n':Nat}{x:Arr}(h:xK s l n=.ok (n',x)):n<n'∧n'≤l.length:=by
 unfold xK at h
 obtain⟨V,hV⟩:∃V,nmV s l (n+1)=V:=⟨_,Z⟩
 rw[hV] at h
 rcases V with e | ⟨n1,nm⟩
 ·cases h
 obtain⟨p1,p2⟩:=pO _ _ hV
 simp only[bnd] at h
 split at h
 ·rename_i h3
  have l3:=dB h3
  split at h
  ·cases h
  ·obtain⟨V,hV⟩:∃V,nmV s l (n1+1)=V:=⟨_,Z⟩
   rw[hV] at h
   rcases V with e | ⟨n2,lv⟩
   ·cases h
   obtain⟨q1,q2⟩:=pO _ _ hV
   simp only[Except.ok.injEq,afO] at h
   omega
 ·cases h
theorem Jd{s:BY}{l:List Tok}:∀{f n c:Nat} {bs:List Blk} {n' c':Nat} {ys:List Blk},n≤l.length->c≤4096->gP s l f n c bs=.ok (n',(c',ys))->n≤n'∧n'≤l.length∧c'≤4096
 | 0,n,c,bs,n',c',ys,hn,hc,h=>by simp [gP] at h
 | f+1,n,c,bs,n',c',ys,hn,hc,h=>by
  rw[gP] at h
  split at h
  ·split at h
   ·cases h
   ·obtain⟨V,hV⟩:∃V,gI s l n c=V:=⟨_,Z⟩
    rw[hV] at h
    rcases V with e | ⟨n1,c1,b⟩
    ·cases h
    ·obtain⟨p1,p2,p3⟩:=su hc hV
     obtain⟨q1,q2,q3⟩:=Jd p2 p3 h
     exact⟨by omega,q2,q3⟩
  ·simp only[Except.ok.injEq,afO] at h
   omega
theorem RX{s:BY}{l:List Tok}{n c n' c':Nat}{x:Fun}(hc:c≤4096)(h:mK s l n c=.ok (n',(c',x))):n<n'∧n'≤l.length∧c'≤4096:=by
 unfold mK at h
 obtain⟨V,hV⟩:∃V,nmV s l (n+1)=V:=⟨_,Z⟩
 rw[hV] at h
 rcases V with e | ⟨n1,nm⟩
 ·cases h
 obtain⟨p1,p2⟩:=pO _ _ hV
 simp only[bnd] at h
 obtain⟨V,hV⟩:∃V,iX s l n1=V:=⟨_,Z⟩
 rw[hV] at h
 rcases V with e | ⟨n2,ps⟩
 ·cases h
 obtain⟨q1,q2⟩:=Ac _ _ hV
 simp only at h
 obtain⟨V,hV⟩:∃V,dY s l n2 123=V:=⟨_,Z⟩
 rw[hV] at h
 rcases V with e | ⟨n3,u⟩
 ·cases h
 obtain⟨r1,r2⟩:=uq _ _ hV
 simp only at h
 obtain⟨V,hV⟩:∃V,gI s l n3 c=V:=⟨_,Z⟩
 rw[hV] at h
 rcases V with e | ⟨n4,c4,b⟩
 ·cases h
 obtain⟨t1,t2,t3⟩:=su hc hV
 simp only at h
 obtain⟨V,hV⟩:∃V,gP s l 65 n4 c4 [b]=V:=⟨_,Z⟩
 rw[hV] at h
 rcases V with e | ⟨n5,c5,bs⟩
 ·cases h
 obtain⟨u1,u2,u3⟩:=Jd t2 t3 hV
 simp only at h
 obtain⟨V,hV⟩:∃V,dY s l n5 125=V:=⟨_,Z⟩
 rw[hV] at h
 rcases V with e | ⟨n6,u⟩
 ·cases h
 obtain⟨w1,w2⟩:=uq _ _ hV
 simp only[Except.ok.injEq,afO] at h
 omega
theorem MV(s:BY):∀(n a:Nat) (out:List Tok),a≤s.size->(∀t,t∈out->0≤t.f∧t.f<t.t∧t.t≤s.size)->∀t,t∈(pK s n a out).1->0≤t.f∧t.f<t.t∧t.t≤s.size
 | 0,a,out,_,_=>by simp [pK]
 | n+1,a,out,ha,ho=>by
  rw[pK]
  split
  ·exact ho
  ·split
   ·rename_i h0
    have hf:=r9 ha
    have hb:(a:Int)≤(iq s a).1.f∧(iq s a).1.f<(iq s a).1.t∧(iq s a).1.t≤s.size:=by
     rcases hf with h | h | h
     ·exact h.2
     ·omega
     ·omega
    refine MV s n _ _ (by omega) λt ht=>?_
    rcases List.mem_append.1 ht with ht | ht
    ·exact ho t ht
    ·obtain rfl:=List.mem_singleton.1 ht
     omega
   ·simp
theorem Gb(s:BY)(hs:s.size≤65536):qz s (fG s).1:=by
 have hl:=Z6 s
 refine⟨λt ht=>?_,by omega,by omega⟩
 unfold fG at ht
 rw[if_neg (by omega)] at ht
 split at ht
 ·simp at ht
 ·exact MV s _ 0 [] (by omega) (by simp) t ht
theorem BN{s:BY}(h:(fG s).2.2=0):s.size≤65536:=by
 rcases Nat.lt_or_ge 65536 s.size with h1 | h1
 ·rw[fG,if_pos h1] at h;cases h
 ·exact h1
theorem PZ{α:Type}{s:BY}{l:List Tok}{b:UInt8}{V:Except (Int×Int) (Nat×α)}:kW s l b V=bnd V λn o=>bnd (dY s l n b) λn _=>.ok (n,o):=by
 rcases V with e | ⟨n,o⟩
 ·rfl
 ·simp only[kW,bnd,dY]
  split<;>rfl
structure PLW (s:BY) (l:List Tok) (R:Except (Int×Int) (Nat×Prg)) where
 f:Nat
 n:Nat
 c:Nat
 p:Prg
 hf:l.length+1≤f+n
 hn:n≤l.length
 hc:c≤4096
 ha:p.arrays.length≤16
 hp:p.funcs.length≤64
 same:pR s l f n c p=R
abbrev acA(R:Prg×Int×Int):V:=.tup [H8 R.1,vi R.2.1,vi R.2.2]
theorem Dw(s:BY)(hs:s.size≤4611686018427387904):Pure PG 16 [vs s] (acA (bY s)) []:=by
 refine aD.Rz (cfg 63) av [] 3 [2,3,4] Tryz.func16 Z Z (by kernel_rfl) Z Z Z ?_
 intro C x
 refine x.pure Z tR Z (Us s hs) ⟨Z,tR⟩ ?_
 refine x.cond Z tR (λh=>?_) (λh=>?_)
 ·have h:(!decide ((fG s).2.2=0))=true:=h
  have h:¬(fG s).2.2=0:=by simpa using h
  rw[bY,if_neg h]
  refine x.every (mkO [(0,[]),(1,[]),(2,[]),(3,[0]),(4,[1,3]),(5,[2,4])] 7 []) ⟨[(2,.ptr 0 0),(3,.ptr 1 0),(4,.ptr 2 0)],[(0,.box [.aF,.aF]),(1,.box [vi (fG s).2.1]),(2,.box [vi (fG s).2.2])],3⟩ Z tR ay (by kernel_rfl) ?_ ?_
  ·repeat' (first | exact tR | exact⟨⟨⟨Z,Z⟩,⟨Z,Z⟩,⟨Z,Z⟩,tR⟩,⟨⟨tR,tR,tR⟩,⟨Z,tR⟩,⟨Z,tR⟩,tR⟩,Z⟩ | refine⟨?_,?_⟩ | refine x.back Z tR ?_)
  refine Go.ownB 0 0 78 4 (λi=>yQ (([]:List Arr).getD i bR)) Z Z ?_
  refine Go.ownB 0 1 82 4 (λi=>yP (([]:List Fun).getD i bG)) Z Z ?_
  refine Sx.Go.freeze 3 ?_
  refine Sx.Go.freeze 4 ?_
  refine x.exit Z tR ?_
  exact⟨.inr Z,⟨Z,Z,Z,tR⟩,tR,Z⟩
 have h:(!decide ((fG s).2.2=0))=false:=h
 have h0:(fG s).2.2=0:=by simpa using h
 have hsm:=BN h0
 have hl:=Gb s hsm
 rw[bY,if_pos h0]
 obtain⟨l,hL⟩:∃l,(fG s).1=l:=⟨_,Z⟩
 rw[hL] at hl ⊢
 have hll:=hl.2.1
 refine x.back Z tR ?_
 refine x.back Z tR ?_
 refine⟨_,_,3,Z,Z,⟨_,Tryz.func43,Z,by kernel_rfl⟩,λC1 x1=>?_⟩
 clear x
 obtain⟨a0,ha0⟩:∃a,(fG s).2.1=a:=⟨_,Z⟩
 obtain⟨e0,he0⟩:∃e,(fG s).2.2=e:=⟨_,Z⟩
 rw[ha0,he0]
 obtain⟨R,hR⟩:∃R,pR s l (l.length+1) 0 0 ⟨[],[]⟩=R:=⟨_,Z⟩
 rw[hR]
 refine x1.toLoop Z tR ?_
 refine Go.ownB 0 0 78 4 (λi=>yQ (([]:List Arr).getD i bR)) Z Z ?_
 refine Go.ownB 0 1 82 4 (λi=>yP (([]:List Fun).getD i bG)) Z Z ?_
 refine x1.loop (α:=PLW s l R) (λy=>⟨[(2,.ptr 0 0),(3,.ptr 1 0),(4,.ptr 2 0),(5,tv l),(6,.ptr 3 0)],[(0,.box [.own 4,.own 5]),(1,.box [vi a0]),(2,.box [vi e0]),(3,pC s l y.n y.c),(4,Ga y.p.arrays),(5,sw y.p.funcs)],6⟩) (λy=>y.f) ⟨l.length+1,0,0,⟨[],[]⟩,by omega,by omega,by omega,by simp,by simp,hR⟩ Z tR ?_ (λy=>?_)
 ·exact⟨⟨⟨Z,Z⟩,⟨Z,Z⟩,⟨Z,Z⟩,au Z,⟨Z,Z⟩,tR⟩,⟨⟨Z,Z,tR⟩,⟨Z,tR⟩,⟨Z,tR⟩,⟨Z,ah Z,Z,Z,tR⟩,⟨Z,Z,Z,λj hj=>absurd hj (afN _)⟩,⟨Z,Z,Z,λj hj=>absurd hj (afN _)⟩,tR⟩,Z⟩
 obtain⟨f,n,c,p,hf,hn,hc,ha,hp,same⟩:=y
 change Go C1 _ ⟨[(2,.ptr 0 0),(3,.ptr 1 0),(4,.ptr 2 0),(5,tv l),(6,.ptr 3 0)],[(0,.box [.own 4,.own 5]),(1,.box [vi a0]),(2,.box [vi e0]),(3,pC s l n c),(4,Ga p.arrays),(5,sw p.funcs)],6⟩ _
 obtain⟨f,rfl⟩:∃f',f=f'+1:=⟨f-1,by omega⟩
 rw[pR] at same
 refine x1.cond Z tR (λb=>?_) (λb=>?_)
 rotate_left
 ·have b:decide ((n:Int)<(l.length:Int))=false:=b
  have b:¬n<l.length:=by simpa using b
  rw[if_neg b] at same
  refine Sx.Go.freeze 4 ?_
  refine Sx.Go.freeze 5 ?_
  refine x1.exit Z tR ?_
  rw[←same]
  exact⟨.back,[.ptr 0 0,.ptr 1 0,.ptr 2 0],[0,1,2],_,_,_,.inr rfl,λh=>(by obtain⟨_,h⟩:=h;cases h),λ_ _ _ _ h=>h,MU 4 p.arrays.length 4 p.funcs.length (λi=>yQ (p.arrays.getD i bR)) (λi=>yP (p.funcs.getD i bG)) 0 0,⟨⟨rfl,rfl⟩,⟨rfl,rfl⟩,⟨rfl,rfl⟩,tR⟩,rfl,⟨⟨ah rfl,ah rfl,tR⟩,⟨rfl,tR⟩,⟨rfl,tR⟩,tR⟩,.inr rfl,⟨rfl,rfl,rfl,tR⟩,tR,rfl⟩
 have b:decide ((n:Int)<(l.length:Int))=true:=b
 have b:n<l.length:=by simpa using b
 rw[if_pos b] at same
 refine x1.call [3] Z tR Z (dG s l n c hl (by omega) 0 (by omega)) Z ⟨⟨Z,Z⟩,Z,tR⟩ ⟨⟨Z,ah Z,Z,Z,tR⟩,tR⟩ ?_
 refine x1.cond Z tR (λb2=>?_) (λb2=>?_)
 ·have b2:decide ((txV s l n).data.toList=[97,114,114,97,121])=true:=b2
  have b2:(txV s l n).data.toList=[97,114,114,97,121]:=afH b2
  rw[if_pos b2] at same
  have h5:=oL s l n c (by omega) (p.arrays.length:Int) 16
  by_cases h6:16≤p.arrays.length
  ·rw[if_pos (by omega)] at h5
   rw[if_pos h6] at same
   refine x1.D5 [2,3,4] [3] Z tR Z h5 ⟨⟨Z,Z⟩,Z,Z,tR⟩ Z ⟨⟨Z,ah Z,Z,Z,tR⟩,tR⟩ ?_
   rw[←same]
   exact⟨.pan Dm [(.i64,_),(.i64,_)],[.ptr 0 0,.ptr 1 0,.ptr 2 0],[0,1,2],_,_,_,Z,λ_=>rfl,λ_ _ _ _ h=>((h.dim 0).dim 1).dim 2,pQ (λi=>yQ (([]:List Arr).getD i bR)) (λi=>yP (([]:List Fun).getD i bG)) _ _,⟨⟨Z,Z⟩,⟨Z,Z⟩,⟨Z,Z⟩,tR⟩,Z,⟨⟨Z,Z,tR⟩,⟨Z,tR⟩,⟨Z,tR⟩,tR⟩,.inr Z,⟨Z,Z,Z,tR⟩,tR,Z⟩
  rw[if_neg (by omega)] at h5
  rw[if_neg h6] at same
  refine x1.call [3] Z tR Z h5 Z ⟨⟨Z,Z⟩,Z,Z,tR⟩ ⟨⟨Z,ah Z,Z,Z,tR⟩,tR⟩ ?_
  have h7:=ML s l n c hl b
  obtain⟨V,hW⟩:∃V,xK s l n=V:=⟨_,Z⟩
  rw[hW] at h7 same
  rcases V with⟨a,e⟩ | ⟨n',x'⟩
  ·refine x1.draw [3] [2] [0,1] [3,4] [5,6,7] Z tR ay (by kernel_rfl) (iP.quiet (by kernel_rfl)) Z tR (λC2 x2=>?_)
   refine x2.D5 [2,3,4] [3] Z tR Z h7 ⟨⟨Z,Z⟩,tR⟩ Z ⟨⟨Z,ah Z,Z,Z,tR⟩,tR⟩ ⟨⟨_,Z⟩,Z,?_⟩
   rw[←same]
   exact⟨.pan Dm [(.i64,_),(.i64,_)],[.ptr 0 0,.ptr 1 0,.ptr 2 0],[0,1,2],_,_,_,Z,λ_=>rfl,λ_ _ _ _ h=>((h.dim 0).dim 1).dim 2,pQ (λi=>yQ (([]:List Arr).getD i bR)) (λi=>yP (([]:List Fun).getD i bG)) _ _,⟨⟨Z,Z⟩,⟨Z,Z⟩,⟨Z,Z⟩,tR⟩,Z,⟨⟨Z,Z,tR⟩,⟨Z,tR⟩,⟨Z,tR⟩,tR⟩,.inr Z,⟨Z,Z,Z,tR⟩,tR,Z⟩
  ·obtain⟨p1,p2⟩:=acz hW
   simp only[bnd] at same
   refine x1.draw [3] [2] [0,1] [3,4] [5,6,7] Z tR ay (by kernel_rfl) (iP.quiet (by kernel_rfl)) Z tR (λC2 x2=>?_)
   refine x2.call [3] Z tR Z h7 Z ⟨⟨Z,Z⟩,tR⟩ ⟨⟨Z,ah Z,Z,Z,tR⟩,tR⟩ ?_
   refine x2.back Z tR ?_
   refine x2.back Z tR ?_
   refine x1.back rfl (by simp only[ak,big];omega) ⟨⟨f,n',c,⟨p.arrays++[x'],p.funcs⟩,by omega,by omega,by omega,by rw[List.length_append];simp only[List.length_cons,List.length_nil];omega,hp,same⟩,by show f<f+1;omega,⟨⟨⟨rfl,rfl⟩,⟨rfl,rfl⟩,⟨rfl,rfl⟩,au rfl,⟨rfl,rfl⟩,tR⟩,⟨⟨rfl,rfl,tR⟩,⟨rfl,tR⟩,⟨rfl,tR⟩,⟨rfl,ah rfl,rfl,rfl,tR⟩,⟨rfl,rfl,by simp,λj hj=>wZ yQ 4 (λ_=>rfl) bR p.arrays x' j hj⟩,⟨rfl,rfl,rfl,λ_ _=>rfl⟩,tR⟩,rfl⟩⟩
 ·have b2:decide ((txV s l n).data.toList=[97,114,114,97,121])=false:=b2
  have b1:¬(txV s l n).data.toList=[97,114,114,97,121]:=afI b2
  refine x1.cond Z tR (λb2=>?_) (λb2=>?_)
  ·have b2:decide ((txV s l n).data.toList=[102,110])=true:=b2
   have b2:(txV s l n).data.toList=[102,110]:=afH b2
   rw[if_neg b1] at same
   rw[if_pos b2] at same
   have h5:=oL s l n c (by omega) (p.funcs.length:Int) 64
   by_cases h6:64≤p.funcs.length
   ·rw[if_pos (by omega)] at h5
    rw[if_pos h6] at same
    refine x1.D5 [2,3,4] [3] Z tR Z h5 ⟨⟨Z,Z⟩,Z,Z,tR⟩ Z ⟨⟨Z,ah Z,Z,Z,tR⟩,tR⟩ ?_
    rw[←same]
    exact⟨.pan Dm [(.i64,_),(.i64,_)],[.ptr 0 0,.ptr 1 0,.ptr 2 0],[0,1,2],_,_,_,Z,λ_=>rfl,λ_ _ _ _ h=>((h.dim 0).dim 1).dim 2,pQ (λi=>yQ (([]:List Arr).getD i bR)) (λi=>yP (([]:List Fun).getD i bG)) _ _,⟨⟨Z,Z⟩,⟨Z,Z⟩,⟨Z,Z⟩,tR⟩,Z,⟨⟨Z,Z,tR⟩,⟨Z,tR⟩,⟨Z,tR⟩,tR⟩,.inr Z,⟨Z,Z,Z,tR⟩,tR,Z⟩
   rw[if_neg (by omega)] at h5
   rw[if_neg h6] at same
   refine x1.call [3] Z tR Z h5 Z ⟨⟨Z,Z⟩,Z,Z,tR⟩ ⟨⟨Z,ah Z,Z,Z,tR⟩,tR⟩ ?_
   have h7:=F9 s l n c hl b hc
   obtain⟨V,hW⟩:∃V,mK s l n c=V:=⟨_,Z⟩
   rw[hW] at h7 same
   rcases V with⟨a,e⟩ | ⟨n',c',x'⟩
   ·refine x1.draw [3] [2] [0,1] [3,4] [5,6,7] Z tR ay (by kernel_rfl) (iP.quiet (by kernel_rfl)) Z tR (λC2 x2=>?_)
    refine x2.D5 [2,3,4] [3] Z tR Z h7 ⟨⟨Z,Z⟩,tR⟩ Z ⟨⟨Z,ah Z,Z,Z,tR⟩,tR⟩ ⟨⟨_,Z⟩,Z,?_⟩
    rw[←same]
    exact⟨.pan Dm [(.i64,_),(.i64,_)],[.ptr 0 0,.ptr 1 0,.ptr 2 0],[0,1,2],_,_,_,Z,λ_=>rfl,λ_ _ _ _ h=>((h.dim 0).dim 1).dim 2,pQ (λi=>yQ (([]:List Arr).getD i bR)) (λi=>yP (([]:List Fun).getD i bG)) _ _,⟨⟨Z,Z⟩,⟨Z,Z⟩,⟨Z,Z⟩,tR⟩,Z,⟨⟨Z,Z,tR⟩,⟨Z,tR⟩,⟨Z,tR⟩,tR⟩,.inr Z,⟨Z,Z,Z,tR⟩,tR,Z⟩
   ·obtain⟨p1,p2,p3⟩:=RX hc hW
    simp only[bnd] at same
    refine x1.draw [3] [2] [0,1] [3,4] [5,6,7] Z tR ay (by kernel_rfl) (iP.quiet (by kernel_rfl)) Z tR (λC2 x2=>?_)
    refine x2.call [3] Z tR Z h7 Z ⟨⟨Z,Z⟩,tR⟩ ⟨⟨Z,ah Z,Z,Z,tR⟩,tR⟩ ?_
    refine Sx.Go.freeze 6 ?_
    refine Sx.Go.freeze 7 ?_
    refine x2.back Z tR ?_
    refine x2.back Z tR ?_
    refine x1.back rfl (by simp only[ak,big];omega) ⟨⟨f,n',c',⟨p.arrays,p.funcs++[x']⟩,by omega,by omega,by omega,ha,by rw[List.length_append];simp only[List.length_cons,List.length_nil];omega,same⟩,by show f<f+1;omega,⟨⟨⟨rfl,rfl⟩,⟨rfl,rfl⟩,⟨rfl,rfl⟩,au rfl,⟨rfl,rfl⟩,tR⟩,⟨⟨rfl,rfl,tR⟩,⟨rfl,tR⟩,⟨rfl,tR⟩,⟨rfl,ah rfl,rfl,rfl,tR⟩,⟨rfl,rfl,rfl,λ_ _=>rfl⟩,⟨rfl,rfl,by simp,λj hj=>wZ yP 4 (λ_=>rfl) bG p.funcs x' j hj⟩,tR⟩,rfl⟩⟩
  ·have b2:decide ((txV s l n).data.toList=[102,110])=false:=b2
   have b3:¬(txV s l n).data.toList=[102,110]:=afI b2
   rw[if_neg b1,if_neg b3] at same
   refine x1.D5 [2,3,4] [3] Z tR Z (lF s l n c (by omega) 7) ⟨⟨Z,Z⟩,Z,tR⟩ Z ⟨⟨Z,ah Z,Z,Z,tR⟩,tR⟩ ?_
   rw[←same]
   exact⟨.pan Dm [(.i64,_),(.i64,_)],[.ptr 0 0,.ptr 1 0,.ptr 2 0],[0,1,2],_,_,_,Z,λ_=>rfl,λ_ _ _ _ h=>((h.dim 0).dim 1).dim 2,pQ (λi=>yQ (([]:List Arr).getD i bR)) (λi=>yP (([]:List Fun).getD i bG)) _ _,⟨⟨Z,Z⟩,⟨Z,Z⟩,⟨Z,Z⟩,tR⟩,Z,⟨⟨Z,Z,tR⟩,⟨Z,tR⟩,⟨Z,tR⟩,tR⟩,.inr Z,⟨Z,Z,Z,tR⟩,tR,Z⟩
def gT(f:Nat->Bool):Nat->Nat->Bool
 | 0,_=>true
 | k+1,i=>f i&&gT f k (i+1)
theorem sD{f:Nat->Bool}:∀{k i:Nat},gT f k i=true↔∀j,i≤j->j<i+k->f j=true
 | 0,i=>by simp only[gT,true_iff];intro j h1 h2;omega
 | k+1,i=>by
  simp only[gT,afF,sD]
  constructor
  ·rintro ⟨h1,h2⟩ j h3 h4
   by_cases e:j=i
   ·subst e;exact h1
   ·exact h2 j (by omega) (by omega)
  ·intro h
   exact⟨h i (by omega) (by omega),λj h3 h4=>h j (by omega) (by omega)⟩
abbrev beq(a b:BY):Bool:=decide (a.data.toList=b.data.toList)
def mY(a b:List BY):Bool:=decide (a.length=b.length)&&gT (λi=>beq (a.getD i .empty) (b.getD i .empty)) a.length 0
structure AW (f:Nat->Bool) (n:Nat) (R:Bool) where
 i:Nat
 hi:i≤n
 same:gT f (n-i) i=R
theorem AW.step{f:Nat->Bool}{n:Nat}{R:Bool}{i:Nat}(hi:i<n)(same:gT f (n-i) i=R)(h:f i=true):gT f (n-(i+1)) (i+1)=R:=by
 rw[show n-i=(n-(i+1))+1 by omega,gT,h] at same
 simpa using same
theorem AW.stop{f:Nat->Bool}{n:Nat}{R:Bool}{i:Nat}(hi:i<n)(same:gT f (n-i) i=R)(h:f i=false):R=false:=by
 rw[show n-i=(n-(i+1))+1 by omega,gT,h] at same
 simpa using same.symm
theorem AW.fin{f:Nat->Bool}{n:Nat}{R:Bool}{i:Nat}(hi:¬i<n)(hn:i≤n)(same:gT f (n-i) i=R):R=true:=by
 rw[show n-i=0 by omega,gT] at same
 exact same.symm
abbrev jY:Nat:=1000000000000
theorem yR(a b:List BY)(ha:a.length≤jY)(hb:b.length≤jY):Pure PG 79 [.d (aZ a),.d (aZ b)] (vb (mY a b)) []:=by
 refine aD.mk (cfg 26) av [] Tryz.func79 Z (by kernel_rfl) Z Z Z ?_
 intro C x
 unfold jY at ha hb
 refine x.cond Z tR (λh=>?_) (λh=>?_)
 ·have h:(!decide ((a.length:Int)=(b.length:Int)))=true:=h
  have h:¬(a.length:Int)=(b.length:Int):=by simpa using h
  refine x.exit Z tR ?_
  rw[mY,decide_eq_false (by omega)]
  exact⟨.inr Z,Z,tR,Z⟩
 have h:(!decide ((a.length:Int)=(b.length:Int)))=false:=h
 have h:(a.length:Int)=(b.length:Int):=by simpa using h
 have hab:a.length=b.length:=by omega
 obtain⟨R,hR⟩:∃R,mY a b=R:=⟨_,Z⟩
 have hR2:gT (λi=>beq (a.getD i .empty) (b.getD i .empty)) a.length 0=R:=by rw[←hR,mY,decide_eq_true hab];rfl
 rw[hR]
 refine x.loop (α:=AW (λi=>beq (a.getD i .empty) (b.getD i .empty)) a.length R) (λy=>⟨[(0,.d (aZ a)),(1,.d (aZ b)),(5,vi (y.i:Int))],[],0⟩) (λy=>a.length-y.i) ⟨0,Nat.zero_le _,hR2⟩ Z tR ⟨⟨au Z,au Z,Z,tR⟩,tR,Z⟩ (λy=>?_)
 obtain⟨i,hi,same⟩:=y
 change Go C _ ⟨[(0,.d (aZ a)),(1,.d (aZ b)),(5,vi (i:Int))],[],0⟩ _
 refine x.cond Z tR (λh2=>?_) (λh2=>?_)
 ·have h2:(i:Int)<(a.length:Int):=afH h2
  have h2:i<a.length:=by omega
  refine x.quiet Z tR ay (by kernel_rfl) ?_
  refine x.bS Z (by simp only[ak];omega) ?_
  refine x.cond Z tR (λh3=>?_) (λh3=>?_)
  ·have h3:(!beq (a.getD ((i:Int).toNat) .empty) (b.getD ((i:Int).toNat) .empty))=true:=h3
   rw[afT] at h3
   refine x.exit Z tR ?_
   rw[AW.stop h2 same (by simpa using h3)]
   exact⟨.inr Z,Z,tR,Z⟩
  ·have h3:(!beq (a.getD ((i:Int).toNat) .empty) (b.getD ((i:Int).toNat) .empty))=false:=h3
   rw[afT] at h3
   refine x.back Z (by simp only[ak,aj];omega) ⟨⟨i+1,by omega,AW.step h2 same (by simpa using h3)⟩,by show a.length-(i+1)<a.length-i;omega,⟨au Z,au Z,?_,tR⟩,tR,Z⟩
   show aB (vi ((i:Int)+1)) (vi ((i+1:Nat):Int));rw[afQ];rfl
 ·have h2:¬(i:Int)<(a.length:Int):=afI h2
  refine x.exit Z tR ?_
  rw[AW.fin (by omega) hi same]
  exact⟨.inr Z,Z,tR,Z⟩
def sF(a b:Ins)(p:Bool):Bool:=
 decide (a.kind=b.kind)&&decide (a.op=b.op)&&beq a.dst b.dst&&beq a.ref b.ref&&beq a.alt b.alt&&decide (a.num=b.num)&&(!p||decide (a.at_=b.at_))&&mY a.args b.args&&mY a.frm b.frm
def Ko(x:Ins):Prop:=x.args.length≤jY∧x.frm.length≤jY
theorem Kq(a b:Ins)(p:Bool)(ha:Ko a)(hb:Ko b):Pure PG 80 [xD a,xD b,vb p] (vb (sF a b p)) []:=by
 refine aD.mk (cfg 72) av [] Tryz.func80 Z (by kernel_rfl) Z Z Z ?_
 intro C x
 refine x.bK Z tR Z (λ_=>yR a.args b.args ha.1 hb.1) Z ⟨au Z,au Z,tR⟩ ?_
 refine x.bK Z tR Z (λ_=>yR a.frm b.frm ha.2 hb.2) Z ⟨au Z,au Z,tR⟩ ?_
 refine x.exit Z tR ?_
 exact⟨.inr Z,Z,tR,Z⟩
def oM(a b:List Ins)(p:Bool):Nat->Bool:=λi=>sF (a.getD i (aP 0)) (b.getD i (aP 0)) p
def jJ(a b:Blk)(p:Bool):Bool:=
 beq a.name b.name&&(!p||decide (a.at_=b.at_))&&decide (a.code.length=b.code.length)&&gT (oM a.code b.code p) a.code.length 0
def je(a b:Fun)(p:Bool):Bool:=
 beq a.name b.name&&(!p||decide (a.at_=b.at_))&&mY a.params b.params&&decide (a.blocks.length=b.blocks.length)&&gT (λi=>jJ (a.blocks.getD i bq) (b.blocks.getD i bq) p) a.blocks.length 0
def acB(b:Blk):Prop:=b.code.length≤jY∧∀x,x∈b.code->Ko x
def P5(f:Fun):Prop:=f.params.length≤jY∧f.blocks.length≤jY∧∀b,b∈f.blocks->acB b
theorem eX{α:Type}{l:List α}{i:Nat}{d:α}(h:i<l.length):l.getD i d∈l:=by
 rw[afE,afG h]
 exact List.getElem_mem h
theorem Kr(a b:Fun)(p:Bool)(ha:P5 a)(hb:P5 b):Pure PG 34 [fnV a,fnV b,vb p] (vb (je a b p)) []:=by
 refine aD.mk (cfg 104) av [] Tryz.func34 Z (by kernel_rfl) Z Z Z ?_
 intro C x
 obtain⟨ha1,ha2,ha3⟩:=ha
 obtain⟨hb1,hb2,hb3⟩:=hb
 unfold jY at ha1 ha2 hb1 hb2
 refine x.bK Z tR Z (λ_=>yR a.params b.params ha1 hb1) Z ⟨au Z,au Z,tR⟩ ?_
 refine x.cond Z tR (λh=>?_) (λh=>?_)
 ·have h:((((!beq a.name b.name)||(p&&!decide (a.at_=b.at_)))||!mY a.params b.params)||!decide ((a.blocks.length:Int)=(b.blocks.length:Int)))=true:=h
  have hR:je a b p=false:=by
   unfold je
   have e:decide (a.blocks.length=b.blocks.length)=decide ((a.blocks.length:Int)=(b.blocks.length:Int)):=by rw[decide_eq_decide];omega
   rw[e]
   revert h
   generalize beq a.name b.name=c1
   generalize decide (a.at_=b.at_)=c2
   generalize mY a.params b.params=c3
   generalize decide ((a.blocks.length:Int)=(b.blocks.length:Int))=c4
   cases c1<;>cases c2<;>cases c3<;>cases c4<;>cases p<;>simp
  refine x.exit Z tR ?_
  rw[hR]
  exact⟨.inr Z,Z,tR,Z⟩
 have h:((((!beq a.name b.name)||(p&&!decide (a.at_=b.at_)))||!mY a.params b.params)||!decide ((a.blocks.length:Int)=(b.blocks.length:Int)))=false:=h
 obtain⟨R,hRR⟩:∃R,je a b p=R:=⟨_,Z⟩
 have hR:gT (λi=>jJ (a.blocks.getD i bq) (b.blocks.getD i bq) p) a.blocks.length 0=R∧(a.blocks.length:Int)=b.blocks.length:=by
  unfold je at hRR
  have e:decide (a.blocks.length=b.blocks.length)=decide ((a.blocks.length:Int)=(b.blocks.length:Int)):=by rw[decide_eq_decide];omega
  rw[e] at hRR
  have e2:decide ((a.blocks.length:Int)=(b.blocks.length:Int))=true:=by
   revert h
   cases decide ((a.blocks.length:Int)=(b.blocks.length:Int))<;>simp
  refine⟨?_,afH e2⟩
  revert h hRR
  generalize beq a.name b.name=c1
  generalize decide (a.at_=b.at_)=c2
  generalize mY a.params b.params=c3
  generalize decide ((a.blocks.length:Int)=(b.blocks.length:Int))=c4
  cases c1<;>cases c2<;>cases c3<;>cases c4<;>cases p<;>simp
 obtain⟨hR,hlen⟩:=hR
 rw[hRR]
 refine x.loop (α:=AW (λi=>jJ (a.blocks.getD i bq) (b.blocks.getD i bq) p) a.blocks.length R) (λy=>⟨[(2,vb p),(3,.ptr 0 0),(4,.ptr 1 0),(7,vi (y.i:Int))],[(0,.box [vs a.name,.d (aZ a.params),.d (gQ a.blocks),vi a.at_]),(1,.box [vs b.name,.d (aZ b.params),.d (gQ b.blocks),vi b.at_])],2⟩) (λy=>a.blocks.length-y.i) ⟨0,Nat.zero_le _,hR⟩ Z tR ⟨⟨Z,⟨Z,Z⟩,⟨Z,Z⟩,Z,tR⟩,⟨⟨Z,ah Z,ah Z,Z,tR⟩,⟨Z,ah Z,ah Z,Z,tR⟩,tR⟩,Z⟩ (λy=>?_)
 obtain⟨i,hi,same⟩:=y
 change Go C _ ⟨[(2,vb p),(3,.ptr 0 0),(4,.ptr 1 0),(7,vi (i:Int))],[(0,.box [vs a.name,.d (aZ a.params),.d (gQ a.blocks),vi a.at_]),(1,.box [vs b.name,.d (aZ b.params),.d (gQ b.blocks),vi b.at_])],2⟩ _
 refine x.cond Z tR (λh2=>?_) (λh2=>?_)
 rotate_left
 ·have h2:¬(i:Int)<(a.blocks.length:Int):=afI h2
  refine x.exit Z tR ?_
  rw[AW.fin (by omega) hi same]
  exact⟨.inr Z,Z,tR,Z⟩
 have h2:(i:Int)<(a.blocks.length:Int):=afH h2
 have h2:i<a.blocks.length:=by omega
 refine x.rz [] [0,1,2,3,4,5,6,7,8,9] (mkO [(10,[]),(11,[]),(12,[10,11]),(13,[12])] 5 [])
  ⟨[(2,vb p),(3,.ptr 0 0),(4,.ptr 1 0),(7,vi (i:Int)),(8,.ptr 2 0),(9,.ptr 3 0)],[(2,.box [vs (a.blocks.getD ((i:Int).toNat) bq).name,.d (nN (a.blocks.getD ((i:Int).toNat) bq).code),vi (a.blocks.getD ((i:Int).toNat) bq).at_]),(3,.box [vs (b.blocks.getD ((i:Int).toNat) bq).name,.d (nN (b.blocks.getD ((i:Int).toNat) bq).code),vi (b.blocks.getD ((i:Int).toNat) bq).at_])],4⟩
  rfl tR ay (by kernel_rfl) Ret.bP Z (by simp only[ak];omega) (λC2 x2=>?_) ?_
 ·refine⟨x2.back Z tR ⟨x2.back Z tR ⟨x2.back Z tR ⟨x2.back Z tR (.inl ?_),tR⟩,tR⟩,tR⟩,x2.back Z tR ⟨x2.back Z tR ⟨x2.back Z tR ⟨x2.back Z tR (.inr ⟨[0,1,3,2],Z,?_⟩),tR⟩,tR⟩,tR⟩,tR⟩
  ·exact⟨⟨Z,⟨Z,Z⟩,⟨Z,Z⟩,Z,⟨Z,Z⟩,⟨Z,Z⟩,tR⟩,⟨⟨Z,ah Z,Z,tR⟩,⟨Z,ah Z,Z,tR⟩,tR⟩,Z⟩
  ·exact⟨⟨Z,⟨Z,Z⟩,⟨Z,Z⟩,Z,⟨Z,Z⟩,⟨Z,Z⟩,tR⟩,⟨⟨Z,ah Z,Z,tR⟩,⟨Z,ah Z,Z,tR⟩,tR⟩,Z⟩
 rw[afT]
 have h3a:b.blocks.length≤1000000000000:=hb2
 have sx:=ha3 _ (eX (d:=bq) h2)
 have sy:=hb3 _ (eX (d:=bq) (show i<b.blocks.length by omega))
 have hfi:∀v,jJ (a.blocks.getD i bq) (b.blocks.getD i bq) p=v->(λi=>jJ (a.blocks.getD i bq) (b.blocks.getD i bq) p) i=v:=λv h=>h
 generalize a.blocks.getD i bq=x1 at sx hfi ⊢
 generalize b.blocks.getD i bq=y1 at sy hfi ⊢
 obtain⟨sx1,sx2⟩:=sx
 obtain⟨sy1,sy2⟩:=sy
 unfold jY at sx1 sy1
 have e:decide (x1.code.length=y1.code.length)=decide ((x1.code.length:Int)=(y1.code.length:Int)):=by rw[decide_eq_decide];omega
 refine x.cond Z tR (λh3=>?_) (λh3=>?_)
 ·have h3:(((!beq x1.name y1.name)||(p&&!decide (x1.at_=y1.at_)))||!decide ((x1.code.length:Int)=(y1.code.length:Int)))=true:=h3
  have hv:jJ x1 y1 p=false:=by
   unfold jJ
   rw[e]
   revert h3
   generalize beq x1.name y1.name=c1
   generalize decide (x1.at_=y1.at_)=c2
   generalize decide ((x1.code.length:Int)=(y1.code.length:Int))=c4
   cases c1<;>cases c2<;>cases c4<;>cases p<;>simp
  refine x.exit Z tR ?_
  rw[AW.stop h2 same (hfi _ hv)]
  exact⟨.inr Z,Z,tR,Z⟩
 have h3:(((!beq x1.name y1.name)||(p&&!decide (x1.at_=y1.at_)))||!decide ((x1.code.length:Int)=(y1.code.length:Int)))=false:=h3
 obtain⟨Q,hQ⟩:∃Q,jJ x1 y1 p=Q:=⟨_,Z⟩
 have hq:gT (oM x1.code y1.code p) x1.code.length 0=Q∧(x1.code.length:Int)=y1.code.length:=by
  unfold jJ at hQ
  rw[e] at hQ
  have e2:decide ((x1.code.length:Int)=(y1.code.length:Int))=true:=by
   revert h3
   cases decide ((x1.code.length:Int)=(y1.code.length:Int))<;>simp
  refine⟨?_,afH e2⟩
  revert h3 hQ
  generalize beq x1.name y1.name=c1
  generalize decide (x1.at_=y1.at_)=c2
  generalize decide ((x1.code.length:Int)=(y1.code.length:Int))=c4
  cases c1<;>cases c2<;>cases c4<;>cases p<;>simp
 obtain⟨hq,hlen2⟩:=hq
 rw[hQ] at hfi
 refine x.loop (α:=AW (oM x1.code y1.code p) x1.code.length Q) (λy=>⟨[(2,vb p),(3,.ptr 0 0),(4,.ptr 1 0),(7,vi (i:Int)),(8,.ptr 2 0),(9,.ptr 3 0),(10,vi (y.i:Int))],[(0,.box [vs a.name,.d (aZ a.params),.d (gQ a.blocks),vi a.at_]),(1,.box [vs b.name,.d (aZ b.params),.d (gQ b.blocks),vi b.at_]),(2,.box [vs x1.name,.d (nN x1.code),vi x1.at_]),(3,.box [vs y1.name,.d (nN y1.code),vi y1.at_])],4⟩) (λy=>x1.code.length-y.i) ⟨0,Nat.zero_le _,hq⟩ Z tR ⟨⟨Z,⟨Z,Z⟩,⟨Z,Z⟩,Z,⟨Z,Z⟩,⟨Z,Z⟩,Z,tR⟩,⟨⟨Z,ah Z,ah Z,Z,tR⟩,⟨Z,ah Z,ah Z,Z,tR⟩,⟨Z,ah Z,Z,tR⟩,⟨Z,ah Z,Z,tR⟩,tR⟩,Z⟩ (λy=>?_)
 obtain⟨k,hk,Gc⟩:=y
 change Go C _ ⟨[(2,vb p),(3,.ptr 0 0),(4,.ptr 1 0),(7,vi (i:Int)),(8,.ptr 2 0),(9,.ptr 3 0),(10,vi (k:Int))],[(0,.box [vs a.name,.d (aZ a.params),.d (gQ a.blocks),vi a.at_]),(1,.box [vs b.name,.d (aZ b.params),.d (gQ b.blocks),vi b.at_]),(2,.box [vs x1.name,.d (nN x1.code),vi x1.at_]),(3,.box [vs y1.name,.d (nN y1.code),vi y1.at_])],4⟩ _
 refine x.cond Z tR (λh4=>?_) (λh4=>?_)
 rotate_left
 ·have h4:¬(k:Int)<(x1.code.length:Int):=afI h4
  have hv:=AW.fin (by omega) hk Gc
  refine x.back Z (by simp only[ak,aj];omega) ⟨⟨i+1,by omega,AW.step h2 same (hfi _ hv)⟩,by show a.blocks.length-(i+1)<a.blocks.length-i;omega,⟨Z,⟨Z,Z⟩,⟨Z,Z⟩,by show aB (vi ((i:Int)+1)) (vi ((i+1:Nat):Int));rw[afQ];rfl,tR⟩,⟨⟨Z,ah Z,ah Z,Z,tR⟩,⟨Z,ah Z,ah Z,Z,tR⟩,tR⟩,Z⟩
 have h4:(k:Int)<(x1.code.length:Int):=afH h4
 have h4:k<x1.code.length:=by omega
 have c1:=Kq (x1.code.getD ((k:Int).toNat) (aP 0)) (y1.code.getD ((k:Int).toNat) (aP 0)) p (by rw[afT];exact sx2 _ (eX h4)) (by rw[afT];exact sy2 _ (eX (by omega)))
 refine x.quiet Z tR ay (by kernel_rfl) ?_
 refine x.lS Z (by simp only[ak];omega) Z c1 Z Z ⟨⟨Z,Z,Z,Z,Z,ah Z,ah Z,Z,Z,tR⟩,⟨Z,Z,Z,Z,Z,ah Z,ah Z,Z,Z,tR⟩,Z,tR⟩ ?_
 refine x.bS Z tR ?_
 rw[afT]
 refine x.cond Z tR (λh5=>?_) (λh5=>?_)
 ·have h5:(!sF (x1.code.getD k (aP 0)) (y1.code.getD k (aP 0)) p)=true:=h5
  have hv:=AW.stop h4 Gc (show oM x1.code y1.code p k=false from by rw[afR] at h5;exact h5)
  refine x.exit Z tR ?_
  rw[AW.stop h2 same (hfi _ hv)]
  exact⟨.inr Z,Z,tR,Z⟩
 ·have h5:(!sF (x1.code.getD k (aP 0)) (y1.code.getD k (aP 0)) p)=false:=h5
  refine x.back Z (by simp only[ak,aj];omega) ⟨⟨k+1,by omega,AW.step h4 Gc (show oM x1.code y1.code p k=true from by rw[Bool.not_eq_false'] at h5;exact h5)⟩,by show x1.code.length-(k+1)<x1.code.length-k;omega,⟨Z,⟨Z,Z⟩,⟨Z,Z⟩,Z,⟨Z,Z⟩,⟨Z,Z⟩,by show aB (vi ((k:Int)+1)) (vi ((k+1:Nat):Int));rw[afQ];rfl,tR⟩,⟨⟨Z,ah Z,ah Z,Z,tR⟩,⟨Z,ah Z,ah Z,Z,tR⟩,⟨Z,ah Z,Z,tR⟩,⟨Z,ah Z,Z,tR⟩,tR⟩,Z⟩
def jK(a b:Arr)(p:Bool):Bool:=beq a.name b.name&&decide (a.size=b.size)&&beq a.level b.level&&(!p||decide (a.at_=b.at_))
def Gd(a b:Prg)(p:Bool):Bool:=
 decide (a.arrays.length=b.arrays.length)&&decide (a.funcs.length=b.funcs.length)&&gT (λi=>jK (a.arrays.getD i bR) (b.arrays.getD i bR) p) a.arrays.length 0&&gT (λi=>je (a.funcs.getD i bG) (b.funcs.getD i bG) p) a.funcs.length 0
def Kt(p:Prg):Prop:=p.arrays.length≤jY∧p.funcs.length≤jY∧∀f,f∈p.funcs->P5 f
theorem UG(a b:Prg)(p:Bool)(ha:Kt a)(hb:Kt b):Pure PG 12 [H8 a,H8 b,vb p] (vb (Gd a b p)) []:=by
 refine aD.mk (cfg 93) av [] Tryz.func12 Z (by kernel_rfl) Z Z Z ?_
 intro C x
 obtain⟨ha1,ha2,ha3⟩:=ha
 obtain⟨hb1,hb2,hb3⟩:=hb
 unfold jY at ha1 ha2 hb1 hb2
 refine x.cond Z tR (λh=>?_) (λh=>?_)
 ·have h:((!decide ((a.arrays.length:Int)=(b.arrays.length:Int)))||!decide ((a.funcs.length:Int)=(b.funcs.length:Int)))=true:=h
  have hR:Gd a b p=false:=by
   unfold Gd
   by_cases e1:a.arrays.length=b.arrays.length
   ·by_cases e2:a.funcs.length=b.funcs.length
    ·rw[e1,e2] at h;simp at h
    ·rw[decide_eq_false e2];simp
   ·rw[decide_eq_false e1];simp
  refine x.exit Z tR ?_
  rw[hR]
  exact⟨.inr Z,Z,tR,Z⟩
 have h:((!decide ((a.arrays.length:Int)=(b.arrays.length:Int)))||!decide ((a.funcs.length:Int)=(b.funcs.length:Int)))=false:=h
 have hl:a.arrays.length=b.arrays.length∧a.funcs.length=b.funcs.length:=by
  simp only[afU,Bool.not_eq_false',afL] at h
  omega
 obtain⟨hl1,hl2⟩:=hl
 obtain⟨R2,hR2⟩:∃R,gT (λi=>je (a.funcs.getD i bG) (b.funcs.getD i bG) p) a.funcs.length 0=R:=⟨_,Z⟩
 obtain⟨R1,hR1⟩:∃R,gT (λi=>jK (a.arrays.getD i bR) (b.arrays.getD i bR) p) a.arrays.length 0=R:=⟨_,Z⟩
 have hR:Gd a b p=(R1&&R2):=by
  unfold Gd
  rw[decide_eq_true hl1,decide_eq_true hl2,hR1,hR2]
  simp
 rw[hR]
 clear hR h
 refine x.loop (α:=AW (λi=>jK (a.arrays.getD i bR) (b.arrays.getD i bR) p) a.arrays.length R1) (λy=>⟨[(2,vb p),(3,.ptr 0 0),(4,.ptr 1 0),(7,vi (y.i:Int))],[(0,.box [.d (bV a.arrays),.d (dn a.funcs)]),(1,.box [.d (bV b.arrays),.d (dn b.funcs)])],2⟩) (λy=>a.arrays.length-y.i) ⟨0,Nat.zero_le _,hR1⟩ Z tR ⟨⟨Z,⟨Z,Z⟩,⟨Z,Z⟩,Z,tR⟩,⟨⟨ah Z,ah Z,tR⟩,⟨ah Z,ah Z,tR⟩,tR⟩,Z⟩ (λy=>?_)
 obtain⟨i,hi,same⟩:=y
 change Go C _ ⟨[(2,vb p),(3,.ptr 0 0),(4,.ptr 1 0),(7,vi (i:Int))],[(0,.box [.d (bV a.arrays),.d (dn a.funcs)]),(1,.box [.d (bV b.arrays),.d (dn b.funcs)])],2⟩ _
 refine x.cond Z tR (λh2=>?_) (λh2=>?_)
 ·have h2:(i:Int)<(a.arrays.length:Int):=afH h2
  have h2:i<a.arrays.length:=by omega
  refine x.rz [] [0,1,2,3,4,5,6,7,8,9] (mkO [(10,[]),(11,[]),(12,[10,11]),(13,[12])] 5 [])
   ⟨[(2,vb p),(3,.ptr 0 0),(4,.ptr 1 0),(7,vi (i:Int)),(8,.ptr 2 0),(9,.ptr 3 0)],[(2,.box [vs (a.arrays.getD ((i:Int).toNat) bR).name,vi (a.arrays.getD ((i:Int).toNat) bR).size,vs (a.arrays.getD ((i:Int).toNat) bR).level,vi (a.arrays.getD ((i:Int).toNat) bR).at_]),(3,.box [vs (b.arrays.getD ((i:Int).toNat) bR).name,vi (b.arrays.getD ((i:Int).toNat) bR).size,vs (b.arrays.getD ((i:Int).toNat) bR).level,vi (b.arrays.getD ((i:Int).toNat) bR).at_])],4⟩
   rfl tR ay (by kernel_rfl) Ret.bP Z (by simp only[ak];omega) (λC2 x2=>?_) ?_
  ·refine⟨x2.back Z tR ⟨x2.back Z tR ⟨x2.back Z tR ⟨x2.back Z tR (.inl ?_),tR⟩,tR⟩,tR⟩,x2.back Z tR ⟨x2.back Z tR ⟨x2.back Z tR ⟨x2.back Z tR (.inr ⟨[0,1,3,2],Z,?_⟩),tR⟩,tR⟩,tR⟩,tR⟩
   ·exact⟨⟨Z,⟨Z,Z⟩,⟨Z,Z⟩,Z,⟨Z,Z⟩,⟨Z,Z⟩,tR⟩,⟨⟨Z,Z,Z,Z,tR⟩,⟨Z,Z,Z,Z,tR⟩,tR⟩,Z⟩
   ·exact⟨⟨Z,⟨Z,Z⟩,⟨Z,Z⟩,Z,⟨Z,Z⟩,⟨Z,Z⟩,tR⟩,⟨⟨Z,Z,Z,Z,tR⟩,⟨Z,Z,Z,Z,tR⟩,tR⟩,Z⟩
  rw[afT]
  have hfi:∀v,jK (a.arrays.getD i bR) (b.arrays.getD i bR) p=v->(λi=>jK (a.arrays.getD i bR) (b.arrays.getD i bR) p) i=v:=λv h=>h
  generalize a.arrays.getD i bR=x1 at hfi ⊢
  generalize b.arrays.getD i bR=y1 at hfi ⊢
  refine x.cond Z tR (λh3=>?_) (λh3=>?_)
  ·have h3:((((!beq x1.name y1.name)||!decide (x1.size=y1.size))||!beq x1.level y1.level)||(p&&!decide (x1.at_=y1.at_)))=true:=h3
   have hv:jK x1 y1 p=false:=by
    unfold jK
    revert h3
    generalize beq x1.name y1.name=c1
    generalize decide (x1.size=y1.size)=c2
    generalize beq x1.level y1.level=c3
    generalize decide (x1.at_=y1.at_)=c4
    cases c1<;>cases c2<;>cases c3<;>cases c4<;>cases p<;>simp
   refine x.exit Z tR ?_
   rw[AW.stop h2 same (hfi _ hv)]
   exact⟨.inr Z,Z,tR,Z⟩
  ·have h3:((((!beq x1.name y1.name)||!decide (x1.size=y1.size))||!beq x1.level y1.level)||(p&&!decide (x1.at_=y1.at_)))=false:=h3
   have hv:jK x1 y1 p=true:=by
    unfold jK
    revert h3
    generalize beq x1.name y1.name=c1
    generalize decide (x1.size=y1.size)=c2
    generalize beq x1.level y1.level=c3
    generalize decide (x1.at_=y1.at_)=c4
    cases c1<;>cases c2<;>cases c3<;>cases c4<;>cases p<;>simp
   refine x.back Z (by simp only[ak,aj];omega) ⟨⟨i+1,by omega,AW.step h2 same (hfi _ hv)⟩,by show a.arrays.length-(i+1)<a.arrays.length-i;omega,⟨Z,⟨Z,Z⟩,⟨Z,Z⟩,by show aB (vi ((i:Int)+1)) (vi ((i+1:Nat):Int));rw[afQ];rfl,tR⟩,⟨⟨ah Z,ah Z,tR⟩,⟨ah Z,ah Z,tR⟩,tR⟩,Z⟩
 have h2:¬(i:Int)<(a.arrays.length:Int):=afI h2
 have hr1:R1=true:=AW.fin (by omega) hi same
 refine x.loop (α:=AW (λi=>je (a.funcs.getD i bG) (b.funcs.getD i bG) p) a.funcs.length R2) (λy=>⟨[(2,vb p),(3,.ptr 0 0),(4,.ptr 1 0),(10,vi (y.i:Int))],[(0,.box [.d (bV a.arrays),.d (dn a.funcs)]),(1,.box [.d (bV b.arrays),.d (dn b.funcs)])],2⟩) (λy=>a.funcs.length-y.i) ⟨0,Nat.zero_le _,hR2⟩ rfl tR ⟨⟨rfl,⟨rfl,rfl⟩,⟨rfl,rfl⟩,rfl,tR⟩,⟨⟨ah rfl,ah rfl,tR⟩,⟨ah rfl,ah rfl,tR⟩,tR⟩,rfl⟩ (λy=>?_)
 obtain⟨i,hi,same⟩:=y
 change Go C _ ⟨[(2,vb p),(3,.ptr 0 0),(4,.ptr 1 0),(10,vi (i:Int))],[(0,.box [.d (bV a.arrays),.d (dn a.funcs)]),(1,.box [.d (bV b.arrays),.d (dn b.funcs)])],2⟩ _
 refine x.cond Z tR (λh2=>?_) (λh2=>?_)
 rotate_left
 ·have h2:¬(i:Int)<(a.funcs.length:Int):=afI h2
  refine x.exit Z tR ?_
  rw[hr1,AW.fin (by omega) hi same]
  exact⟨.inr Z,Z,tR,Z⟩
 have h2:(i:Int)<(a.funcs.length:Int):=afH h2
 have h2:i<a.funcs.length:=by omega
 have c1:=Kr (a.funcs.getD ((i:Int).toNat) bG) (b.funcs.getD ((i:Int).toNat) bG) p (by rw[afT];exact ha3 _ (eX h2)) (by rw[afT];exact hb3 _ (eX (by omega)))
 refine x.quiet Z tR ay (by kernel_rfl) ?_
 refine x.lS Z (by simp only[ak];omega) Z c1 Z Z ⟨⟨Z,ah Z,ah Z,Z,tR⟩,⟨Z,ah Z,ah Z,Z,tR⟩,Z,tR⟩ ?_
 refine x.bS Z tR ?_
 rw[afT]
 refine x.cond Z tR (λh5=>?_) (λh5=>?_)
 ·have h5:(!je (a.funcs.getD i bG) (b.funcs.getD i bG) p)=true:=h5
  refine x.exit Z tR ?_
  rw[hr1,AW.stop h2 same (by rw[afR] at h5;exact h5)]
  exact⟨.inr Z,Z,tR,Z⟩
 ·have h5:(!je (a.funcs.getD i bG) (b.funcs.getD i bG) p)=false:=h5
  refine x.back Z (by simp only[ak,aj];omega) ⟨⟨i+1,by omega,AW.step h2 same (by rw[Bool.not_eq_false'] at h5;exact h5)⟩,by show a.funcs.length-(i+1)<a.funcs.length-i;omega,⟨Z,⟨Z,Z⟩,⟨Z,Z⟩,by show aB (vi ((i:Int)+1)) (vi ((i+1:Nat):Int));rw[afQ];rfl,tR⟩,⟨⟨ah Z,ah Z,tR⟩,⟨ah Z,ah Z,tR⟩,tR⟩,Z⟩
end Go.Proofs.YtojhdmfkfkfcbaaGreatDoor
