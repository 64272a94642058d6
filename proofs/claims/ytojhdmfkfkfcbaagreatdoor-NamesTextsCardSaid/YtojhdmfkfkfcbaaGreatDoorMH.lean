import Derived.Test.YtojhdmfkfkfcbaaGreatDoorMG
import Derived.Test.YtojhdmfkfkfcbaaGreatDoorMC
import Derived.Test.YtojhdmfkfkfcbaaGreatDoorME
import Derived.Test.YtojhdmfkfkfcbaaGreatDoorShelf
import Derived.Test.YtojhdmfkfkfcbaaGreatDoorMD
import Derived.Test.YtojhdmfkfkfcbaaGreatDoorSxF
import Derived.Handed
import Derived.Shelf.Vars
import Derived.Test.YtojhdmfkfkfcbaaGreatDoorMF
namespace Go.Proofs.YtojhdmfkfkfcbaaGreatDoor
open Go.Sx
set_option linter.unusedVariables false
set_option linter.unusedSimpArgs false
set_option maxRecDepth 100000
def QQ {α:Type} (s:ByteArray) (p:α->Prop):Except (Int×Int) (Nat×α)->Prop
 | .ok (_,x)=>p x
 | .error e=>0≤e.1∧e.1≤s.size
section
variable {s:ByteArray} {l:List Tok} (H:Lies s l)
theorem qq_bnd {α β:Type} {p:α->Prop} {q:β->Prop} {r:Except (Int×Int) (Nat×α)} {k:Nat->α->Except (Int×Int) (Nat×β)} (h1:QQ s p r) (h2:∀n a,p a->QQ s q (k n a)):QQ s q (bnd r k):=by
 rcases r with e | ⟨n,a⟩
 ·exact h1
 ·exact h2 n a h1
theorem qq_up {α:Type} {p q:α->Prop} {r:Except (Int×Int) (Nat×α)} (h:QQ s p r) (hq:∀x,p x->q x):QQ s q r:=by
 rcases r with e | ⟨n,a⟩
 ·exact h
 ·exact hq a h
theorem qq0 {α:Type} {p:α->Prop} {k:Int}:QQ (α:=α) s p (.error (0,k)):=⟨Int.le_refl _,by omega⟩
include H
theorem qq_at {α:Type} {p:α->Prop} (n:Nat) (k:Int):QQ (α:=α) s p (.error (atV s l n,k)):=by
 show 0≤atV s l n∧atV s l n≤s.size
 unfold atV
 split
 ·rename_i hn
  have:=H.get hn
  omega
 ·omega
abbrev TT {α:Type}:α->Prop:=fun _=>True
theorem qq_nm {n:Nat}:QQ s (fun x=>x=txV s l n) (nmV s l n):=by
 unfold nmV
 split
 ·exact rfl
 ·exact qq_at H _ _
theorem qq_nmT {n:Nat}:QQ s TT (nmV s l n):=qq_up (qq_nm H) fun _ _=>trivial
theorem qq_need {n:Nat} {b:UInt8}:QQ s TT (needV s l n b):=by
 unfold needV
 split
 ·exact tR
 ·exact qq_at H _ _
theorem qq_close {α:Type} {p:α->Prop} {b:UInt8} {r:Except (Int×Int) (Nat×α)} (h:QQ s p r):QQ s p (closeV s l b r):=by
 rw[closeV_bnd]
 exact qq_bnd h fun n x hx=>qq_bnd (qq_need H) fun n _ _=>hx
theorem qq_namesF:∀(f n k:Nat) (o:List ByteArray),QQ s TT (namesF s l f n k o)
 | 0,n,k,o=>qq0
 | f+1,n,k,o=>by
  rw[namesF]
  split
  ·split
   ·exact qq_at H _ _
   ·split
    ·exact qq_namesF f _ _ _
    ·exact tR
  ·exact qq_at H _ _
theorem qq_names {n:Nat}:QQ s TT (namesV s l n):=by
 unfold namesV
 split
 ·split
  ·exact tR
  ·exact qq_close H (qq_namesF H _ _ _ _)
 ·exact qq_at H _ _
def KK (a:Int) (d:ByteArray) (x:Ins):Prop:=x.at_=a∧x.dst=d
variable {a:Int} {d:ByteArray}
theorem qq_arg {n:Nat} {x:Ins} (h:KK a d x):QQ s (KK a d) (argV s l n x):=qq_bnd (qq_nmT H) fun n _ _=>h
theorem qq_one {n:Nat} {x:Ins} (h:KK a d x):QQ s (KK a d) (oneV7 s l n x):=qq_bnd (qq_nmT H) fun n _ _=>h
theorem qq_ref {n:Nat} {x:Ins} (h:KK a d x):QQ s (KK a d) (refV s l n x):=qq_bnd (qq_nmT H) fun n _ _=>h
theorem qq_pairs:∀(f n k:Nat) (x:Ins),KK a d x->QQ s (KK a d) (pairsF s l f n k x)
 | 0,n,k,x,h=>qq0
 | f+1,n,k,x,h=>by
  rw[pairsF]
  split
  ·exact qq_at H _ _
  ·refine qq_bnd (p:=KK a d) (qq_bnd (qq_nmT H) fun n _ _=>qq_bnd (qq_need H) fun n _ _=>qq_bnd (qq_nmT H) fun n _ _=>h) fun n y hy=>?_
   split
   ·exact qq_pairs f _ _ _ hy
   ·exact hy
theorem qq_word {n:Nat} {x:Ins} {w:List UInt8} (h:KK a d x):QQ s (KK a d) (wordV s l n x w):=by
 have h0:∀k:Int,KK a d ({x with kind:=k}:Ins):=fun k=>h
 unfold wordV
 split
 ·unfold constV;split
  ·exact h
  ·exact qq_at H _ _
 split
 ·exact qq_bnd (qq_ref H (h0 4)) fun n y hy=>qq_one H hy
 split
 ·exact qq_bnd (qq_ref H (h0 5)) fun n y hy=>qq_one H hy
 split
 ·exact qq_ref H (h0 8)
 split
 ·exact qq_bnd (qq_ref H (h0 7)) fun n y hy=>qq_bnd (qq_names H) fun n o _=>hy
 split
 ·exact qq_bnd (qq_one H (h0 10)) fun n y hy=>qq_ref H hy
 split
 ·exact qq_bnd (qq_need H) fun n _ _=>qq_close H (qq_pairs H _ _ _ _ (h0 3))
 ·exact qq_at H _ _
theorem qq_value {n:Nat} {x:Ins} (h:KK a d x):QQ s (KK a d) (valueV s l n x):=by
 unfold valueV
 split
 ·exact qq_bnd (qq_arg H (x:={x with kind:=2,op:=_}) h) fun n y hy=>qq_arg H hy
 ·exact qq_word H h
theorem qq_act {w:List UInt8} {f:Nat->Ins->Except (Int×Int) (Nat×Ins)} (hf:actV s l w=some f) {n:Nat} {x:Ins} (h:KK a d x):QQ s (KK a d) (f n x):=by
 unfold actV at hf
 split at hf
 ·obtain rfl:=Option.some.inj hf
  exact qq_bnd (qq_nmT H) fun n r _=>qq_bnd (qq_arg H (x:={{x with kind:=6} with ref:=r}) h) fun n y hy=>qq_bnd (qq_arg H hy) fun n y hy=>hy
 split at hf
 ·obtain rfl:=Option.some.inj hf
  exact qq_bnd (qq_nmT H) fun n r _=>qq_bnd (qq_arg H (x:={{x with kind:=9} with ref:=r}) h) fun n y hy=>hy
 split at hf
 ·obtain rfl:=Option.some.inj hf
  exact qq_bnd (qq_nmT H) fun n r _=>h
 split at hf
 ·obtain rfl:=Option.some.inj hf
  exact qq_bnd (qq_arg H (x:={x with kind:=12}) h) fun n y hy=>qq_bnd (qq_nmT H) fun n _ _=>qq_bnd (qq_nmT H) fun n _ _=>hy
 split at hf
 ·obtain rfl:=Option.some.inj hf
  exact qq_bnd (qq_arg H (x:={x with kind:=13}) h) fun n y hy=>hy
 ·cases hf
def PI (s:ByteArray) (l:List Tok) (n:Nat) (x:Ins):Prop:=x.at_=atV s l n∧(0<x.dst.size->x.dst=txV s l n)
theorem qq_instr {n c:Nat}:QQ s (PI s l n) (instrV s l n c):=by
 unfold instrV
 split
 ·exact qq_at H _ _
 split
 ·exact qq_at H _ _
 split
 ·exact qq_at H _ _
 split
 ·rename_i f hf
  exact qq_up (qq_act H hf (a:=atV s l n) (d:=.empty) ⟨rfl,rfl⟩) fun y hy=>⟨hy.1,fun h=>by rw[hy.2] at h;exact absurd h (by decide)⟩
 ·refine qq_bnd (qq_nm H) fun n1 d hd=>qq_bnd (qq_need H) fun n2 _ _=>?_
  exact qq_up (qq_value H (a:=atV s l n) (d:=d) ⟨rfl,rfl⟩) fun y hy=>⟨hy.1,fun _=>by rw[hy.2,hd]⟩
def Chn (s:ByteArray) (l:List Tok):Nat->List Ins->Nat->Prop
 | lo,[],hi=>lo≤hi
 | lo,x::xs,hi=>∃k,lo≤k∧k<l.length∧PI s l k x∧Chn s l (k+1) xs hi
omit H in
theorem Chn.low {lo lo':Nat} (h:lo'≤lo):∀{xs:List Ins} {hi:Nat},Chn s l lo xs hi->Chn s l lo' xs hi
 | [],hi,h1=>Nat.le_trans h h1
 | x::xs,hi,⟨k,h1,h2⟩=>⟨k,Nat.le_trans h h1,h2⟩
theorem code_chain:∀{f n c:Nat} {xs:List Ins},n≤l.length->QQ s TT (codeF s l f n c xs)∧∀{n' c':Nat} {ys:List Ins},codeF s l f n c xs=.ok (n',(c',ys))->∃zs,ys=xs++zs∧Chn s l n zs n'
 | 0,n,c,xs,hn=>⟨qq0,fun h=>by simp [codeF] at h⟩
 | f+1,n,c,xs,hn=>by
  rw[codeF]
  split
  ·refine⟨tR,fun h=>?_⟩
   simp only[Except.ok.injEq,Prod.mk.injEq] at h
   obtain⟨rfl,rfl,rfl⟩:=h
   exact⟨[],(List.append_nil _).symm,Nat.le_refl _⟩
  ·have hq:=qq_instr H (n:=n) (c:=c)
   rcases hV:instrV s l n c with e | ⟨n1,x⟩
   ·rw[hV] at hq
    exact⟨hq,fun h=>by cases h⟩
   ·rw[hV] at hq
    obtain⟨u1,u2⟩:=instr_up _ _ hV
    obtain⟨g1,g2⟩:=code_chain (f:=f) (n:=n1) (c:=c+1) (xs:=xs++[x]) u2
    refine⟨g1,fun h=>?_⟩
    obtain⟨zs,e,hc⟩:=g2 h
    exact⟨x::zs,by rw[e,List.append_assoc];rfl,n,Nat.le_refl _,by omega,hq,hc.low (by omega)⟩
def ChB (s:ByteArray) (l:List Tok):Nat->List Blk->Nat->Prop
 | lo,[],hi=>lo≤hi
 | lo,b::bs,hi=>∃k m,lo≤k∧k<l.length∧b.at_=atV s l k∧Chn s l (k+1) b.code m∧ChB s l m bs hi
omit H in
theorem ChB.low {lo lo':Nat} (h:lo'≤lo):∀{xs:List Blk} {hi:Nat},ChB s l lo xs hi->ChB s l lo' xs hi
 | [],hi,h1=>Nat.le_trans h h1
 | x::xs,hi,⟨k,m,h1,h2⟩=>⟨k,m,Nat.le_trans h h1,h2⟩
theorem block_chain {n c:Nat}:QQ s TT (blockV s l n c)∧∀{n' c':Nat} {b:Blk},blockV s l n c=.ok (n',(c',b))->b.at_=atV s l n∧n<l.length∧Chn s l (n+1) b.code n':=by
 rw[blockV_bnd]
 have q1:=qq_nmT H (n:=n)
 rcases h1:nmV s l n with e | ⟨n1,nm⟩
 ·rw[h1] at q1;exact⟨q1,fun h=>by cases h⟩
 obtain⟨u1,u2⟩:=nm_up _ _ h1
 simp only[bnd]
 have q2:=qq_need H (n:=n1) (b:=58)
 rcases h2:needV s l n1 58 with e | ⟨n2,u⟩
 ·rw[h2] at q2;exact⟨q2,fun h=>by cases h⟩
 obtain⟨u3,u4⟩:=need_up _ _ h2
 simp only
 obtain⟨q3,q4⟩:=code_chain H (f:=4098) (n:=n2) (c:=c) (xs:=[]) u4
 rcases h3:codeF s l 4098 n2 c [] with e | ⟨n3,c3,ys⟩
 ·rw[h3] at q3;exact⟨q3,fun h=>by cases h⟩
 refine⟨tR,fun h=>?_⟩
 obtain⟨zs,e,hc⟩:=q4 h3
 simp only[Except.ok.injEq,Prod.mk.injEq] at h
 obtain⟨rfl,rfl,rfl⟩:=h
 rw[List.nil_append] at e
 subst e
 exact⟨rfl,by omega,hc.low (by omega)⟩
theorem blocks_chain:∀{f n c:Nat} {bs:List Blk},c≤4096->QQ s TT (blocksF s l f n c bs)∧∀{n' c':Nat} {ys:List Blk},blocksF s l f n c bs=.ok (n',(c',ys))->∃zs,ys=bs++zs∧ChB s l n zs n'
 | 0,n,c,bs,hc=>⟨qq0,fun h=>by simp [blocksF] at h⟩
 | f+1,n,c,bs,hc=>by
  rw[blocksF]
  split
  ·split
   ·exact⟨qq_at H _ _,fun h=>by cases h⟩
   ·obtain⟨q1,q2⟩:=block_chain H (n:=n) (c:=c)
    rcases hV:blockV s l n c with e | ⟨n1,c1,b⟩
    ·rw[hV] at q1
     exact⟨q1,fun h=>by cases h⟩
    ·obtain⟨r1,r2,r3⟩:=q2 hV
     obtain⟨g1,g2⟩:=blocks_chain (f:=f) (n:=n1) (c:=c1) (bs:=bs++[b]) (block_up hc hV).2.2
     refine⟨g1,fun h=>?_⟩
     obtain⟨zs,e,hz⟩:=g2 h
     exact⟨b::zs,by rw[e,List.append_assoc];rfl,n,n1,Nat.le_refl _,r2,r1,r3,hz⟩
  ·refine⟨tR,fun h=>?_⟩
   simp only[Except.ok.injEq,Prod.mk.injEq] at h
   obtain⟨rfl,rfl,rfl⟩:=h
   exact⟨[],(List.append_nil _).symm,Nat.le_refl _⟩
def ChF (s:ByteArray) (l:List Tok) (f:Fun):Prop:=∃k hi,k<l.length∧(txV s l k).data.toList=[102,110]∧f.at_=atV s l k∧ChB s l (k+1) f.blocks hi
theorem func_chain {n c:Nat} (hc:c≤4096):QQ s TT (funcV s l n c)∧∀{n' c':Nat} {f:Fun},funcV s l n c=.ok (n',(c',f))->∃hi,f.at_=atV s l n∧ChB s l (n+1) f.blocks hi:=by
 rw[funcV_bnd]
 have q1:=qq_nmT H (n:=n+1)
 rcases h1:nmV s l (n+1) with e | ⟨n1,nm⟩
 ·rw[h1] at q1;exact⟨q1,fun h=>by cases h⟩
 obtain⟨u1,u2⟩:=nm_up _ _ h1
 simp only[bnd]
 have q2:=qq_names H (n:=n1)
 rcases h2:namesV s l n1 with e | ⟨n2,ps⟩
 ·rw[h2] at q2;exact⟨q2,fun h=>by cases h⟩
 obtain⟨u3,u4⟩:=names_up _ _ h2
 simp only
 have q3:=qq_need H (n:=n2) (b:=123)
 rcases h3:needV s l n2 123 with e | ⟨n3,u⟩
 ·rw[h3] at q3;exact⟨q3,fun h=>by cases h⟩
 obtain⟨u5,u6⟩:=need_up _ _ h3
 simp only
 obtain⟨q4,q5⟩:=block_chain H (n:=n3) (c:=c)
 rcases h4:blockV s l n3 c with e | ⟨n4,c4,b⟩
 ·rw[h4] at q4;exact⟨q4,fun h=>by cases h⟩
 obtain⟨b1,b2,b3⟩:=q5 h4
 obtain⟨u7,u8,u9⟩:=block_up hc h4
 simp only
 obtain⟨q6,q7⟩:=blocks_chain H (f:=65) (n:=n4) (c:=c4) (bs:=[b]) u9
 rcases h5:blocksF s l 65 n4 c4 [b] with e | ⟨n5,c5,q⟩
 ·rw[h5] at q6;exact⟨q6,fun h=>by cases h⟩
 obtain⟨zs,e,hz⟩:=q7 h5
 simp only
 have q8:=qq_need H (n:=n5) (b:=125)
 rcases h6:needV s l n5 125 with e | ⟨n6,u⟩
 ·rw[h6] at q8;exact⟨q8,fun h=>by cases h⟩
 refine⟨tR,fun h=>?_⟩
 simp only[Except.ok.injEq,Prod.mk.injEq] at h
 obtain⟨rfl,rfl,rfl⟩:=h
 subst e
 exact⟨n5,rfl,n3,n4,by omega,b2,b1,b3,hz⟩
theorem qq_arr {n:Nat}:QQ s TT (arrV s l n):=by
 unfold arrV
 refine qq_bnd (qq_nmT H) fun n1 nm _=>?_
 split
 ·split
  ·exact qq_at H _ _
  ·exact qq_bnd (qq_nmT H) fun n2 lv _=>trivial
 ·exact qq_at H _ _
theorem prog_chain:∀{f n c:Nat} {p:Prg},c≤4096->(∀f,f∈p.funcs->ChF s l f)->QQ s (fun q:Prg=>∀f,f∈q.funcs->ChF s l f) (progF s l f n c p)
 | 0,n,c,p,hc,hp=>qq0
 | f+1,n,c,p,hc,hp=>by
  rw[progF]
  split
  ·rename_i hlt
   split
   ·split
    ·exact qq_at H _ _
    ·refine qq_bnd (qq_arr H) fun n1 x _=>?_
     exact prog_chain (p:=⟨p.arrays++[x],p.funcs⟩) hc hp
   ·split
    ·rename_i hw
     split
     ·exact qq_at H _ _
     ·obtain⟨q1,q2⟩:=func_chain H (n:=n) hc
      rcases hV:funcV s l n c with e | ⟨n1,c1,x⟩
      ·rw[hV] at q1;exact q1
      ·obtain⟨hi,e1,e2⟩:=q2 hV
       refine prog_chain (p:=⟨p.arrays,p.funcs++[x]⟩) (func_up hc hV).2.2 fun g hg=>?_
       rcases List.mem_append.1 hg with hg | hg
       ·exact hp g hg
       ·obtain rfl:=List.mem_singleton.1 hg
        exact⟨n,hi,hlt,hw,e1,e2⟩
    ·exact qq_at H _ _
  ·exact hp
end
theorem all_err {s:ByteArray}:0≤(allV s).2.1∧(allV s).2.1≤s.size:=by
 rcases Nat.lt_or_ge 65536 s.size with h1 | h1
 ·rw[allV,if_pos h1];exact⟨Int.le_refl _,Int.natCast_nonneg _⟩
 rcases bad_cases s with hb | hb
 ·obtain⟨l,r,hr⟩:=run_ex s s.size 0 (by omega) (Nat.zero_le _)
  rw[allV_run h1 hb hr]
  split
  ·exact⟨Int.le_refl _,Int.natCast_nonneg _⟩
  ·rename_i h4
   have run_place:∀{l:List Tok} {a:Nat} {r:Int×Int},a≤s.size->Run s a l r->0≤r.1∧r.1≤s.size:=fun {l}=>by
    induction l with
    | nil=>
     intro a r ha h
     have hle:=skV_le s s.size false a (by omega) ha
     have e:=h.1
     unfold oneN at e
     split at e
     ·subst e;exact⟨Int.natCast_nonneg _,Int.le_refl _⟩
     ·split at e
      ·subst e;exact absurd rfl h.2
      ·split at e
       ·subst e;exact⟨Int.natCast_nonneg _,by show ((skV s false a:Nat):Int)≤_;omega⟩
       ·subst e;exact absurd rfl h.2
    | cons t l ih=>
     intro a r ha ⟨g1,g2,g3,g4,g5⟩
     exact ih (by omega) g5
   exact run_place (Nat.zero_le _) hr
 ·rw[allV_bad h1 hb.1]
  exact⟨hb.1,by show badV s s.size 0≤_;omega⟩
theorem parse_chain (s:ByteArray):(0≤(parseV s).2.1∧(parseV s).2.1≤s.size)∧((parseV s).2.2=0->(allV s).2.2=0∧∀f,f∈(parseV s).1.funcs->ChF s (allV s).1 f):=by
 unfold parseV
 split
 ·rename_i h0
  have H:=all_lies s (all_small h0)
  have hp:=prog_chain H (f:=(allV s).1.length+1) (n:=0) (c:=0) (p:=⟨[],[]⟩) (Nat.zero_le _) (fun f hf=>by cases hf)
  rcases hV:progF s (allV s).1 ((allV s).1.length+1) 0 0 ⟨[],[]⟩ with⟨a,e⟩ | ⟨n,q⟩
  ·rw[hV] at hp
   exact⟨hp,fun _=>⟨h0,fun f hf=>by cases hf⟩⟩
  ·rw[hV] at hp
   exact⟨⟨Int.le_refl _,Int.natCast_nonneg _⟩,fun _=>⟨h0,hp⟩⟩
 ·rename_i h0
  exact⟨all_err,fun h=>absurd h h0⟩
def softB (c:Nat):Bool:=decide (c<128)&&!letB c&&!digB c
def Soft (y:ByteArray):Prop:=y.size=0∨0<y.size∧softB (bt y 0)=true
inductive Txt:List (Int×ByteArray)->ByteArray->Prop
 | nil:Txt [] .empty
 | blank (b:ByteArray) (hb:b=⟨#[32]⟩∨b=⟨#[10]⟩) {l:List (Int×ByteArray)} {y:ByteArray} (h:Txt l y):Txt l (b++y)
 | tok {k:Int} {w:ByteArray} {l:List (Int×ByteArray)} {y:ByteArray} (hp:Pc k w) (hs:k=4∨Soft y) (h:Txt l y):Txt ((k,w)::l) (w++y)
def TxH (l:List (Int×ByteArray)) (y:ByteArray):Prop:=∀m z,Txt m z->Txt (l++m) (y++z)
def TxS (l:List (Int×ByteArray)) (y:ByteArray):Prop:=∀m z,Txt m z->Soft z->Txt (l++m) (y++z)
def Beg (y:ByteArray):Prop:=0<y.size∧softB (bt y 0)=true
theorem Beg.app {y:ByteArray} (h:Beg y) (z:ByteArray):Beg (y++z):=⟨by rw[app_size];have:=h.1;omega,by rw[bt_left h.1];exact h.2⟩
theorem Beg.soft {y:ByteArray} (h:Beg y):Soft y:=.inr h
theorem TxH.weak {l:List (Int×ByteArray)} {y:ByteArray} (h:TxH l y):TxS l y:=fun m z hz _=>h m z hz
theorem TxH.app {l m:List (Int×ByteArray)} {y z:ByteArray} (h:TxH l y) (k:TxH m z):TxH (l++m) (y++z):=fun n x hx=>by
 rw[List.append_assoc,app_assoc];exact h _ _ (k _ _ hx)
theorem TxS.app {l m:List (Int×ByteArray)} {y z:ByteArray} (h:TxS l y) (k:TxH m z) (hb:Beg z):TxH (l++m) (y++z):=fun n x hx=>by
 rw[List.append_assoc,app_assoc];exact h _ _ (k _ _ hx) (hb.app x).soft
instance (k : Int) (w : ByteArray) : Decidable (Pc k w) := by unfold Pc; exact inferInstance
theorem ba_size (l:List UInt8):(ba l).size=l.length:=by show l.toArray.size=l.length;simp
abbrev Tks:=List (Int×ByteArray)
def hdT:Tks->ByteArray
 | []=>.empty
 | (_,w)::_=>w
def AtT (s:ByteArray) (l:List Tok) (n:Nat) (T:Tks):Prop:=n≤l.length∧(l.map (tx s)).drop n=T
section
variable {s:ByteArray} {l:List Tok} {n:Nat} {T:Tks}
theorem AtT.of (h:l.map (tx s)=T):AtT s l 0 T:=⟨Nat.zero_le _,by rw[List.drop_zero];exact h⟩
theorem AtT.len (h:AtT s l n T):l.length=n+T.length:=by
 have:=congrArg List.length h.2
 simp only[List.length_drop,List.length_map] at this
 have:=h.1
 omega
theorem AtT.hd {k:Int} {w:ByteArray} (h:AtT s l n ((k,w)::T)):n<l.length∧(l.getD n tok0).k=k∧txV s l n=w∧AtT s l (n+1) T:=by
 have hl:=h.len
 rw[List.length_cons] at hl
 have hn:n<l.length:=by omega
 have h2:=h.2
 have hn':n<(l.map (tx s)).length:=by rw[List.length_map];exact hn
 rw[List.drop_eq_getElem_cons hn'] at h2
 obtain⟨e1,e2⟩:=List.cons.inj h2
 rw[List.getElem_map] at e1
 have e3:l.getD n tok0=l[n]:=by rw[List.getD_eq_getElem?_getD,List.getElem?_eq_getElem hn];rfl
 refine⟨hn,?_,?_,by omega,e2⟩
 ·rw[e3];exact congrArg Prod.fst e1
 ·unfold txV
  rw[if_pos hn,e3]
  exact congrArg Prod.snd e1
theorem AtT.app:∀{A:Tks} {n:Nat},AtT s l n (A++T)->AtT s l (n+A.length) T
 | [],n,h=>h
 | (k,w)::A,n,h=>by
  have:=AtT.app (A:=A) h.hd.2.2.2
  rw[List.length_cons]
  rwa [show n+1+A.length=n+(A.length+1) by omega] at this
theorem AtT.text (h:AtT s l n T):txV s l n=hdT T:=by
 match T,h with
 | [],h=>
  have:=h.len
  unfold txV
  rw[if_neg (by simp at this;omega)]
  rfl
 | (k,w)::T,h=>exact h.hd.2.2.1
theorem AtT.kind {k k2:Int} {w:ByteArray} (h:AtT s l n ((k,w)::T)):isV l n k2=decide (k=k2):=by
 unfold isV
 rw[decide_eq_true h.hd.1,h.hd.2.1]
 rfl
theorem AtT.is {k:Int} {w:ByteArray} (h:AtT s l n ((k,w)::T)):isV l n k=true:=by rw[h.kind];simp
end
def cN (bs:List Blk):Nat:=(bs.map fun b=>b.code.length).sum
theorem arrLine_size {a:Arr} (h:arrOK a=true):(arrLine a).size≤300:=by
 unfold arrOK at h
 simp only[Bool.not_eq_true',Bool.or_eq_false_iff,decide_eq_false_iff_not,Bool.not_eq_false'] at h
 obtain⟨⟨⟨h1,h2⟩,h3⟩,h4⟩:=h
 have s1:=okN_size h1
 have s2:=okN_size h2
 have s3:=show_size (n:=a.size) (by unfold inI64;omega)
 unfold arrLine
 rw[join4,app_size,app_size,app_size,app_size,app_size,app_size]
 show 5+(1+(_+(1+(_+(1+_)))))≤_
 omega
structure BlkR (b:Blk):Prop where
 name:okN b.name=true
 code:∀x,x∈b.code->rightI x=true
 few:b.code.length≤4096
structure FunR (f:Fun):Prop where
 name:okN f.name=true
 params:allN f.params=true
 plen:f.params.length≤6
 blen:f.blocks.length≤64
 blocks:∀b,b∈f.blocks->BlkR b
structure PrgR (p:Prg):Prop where
 alen:p.arrays.length≤16
 flen:p.funcs.length≤64
 arrays:∀a,a∈p.arrays->arrOK a=true
 funcs:∀f,f∈p.funcs->FunR f
theorem right_prg {p:Prg} (h:rightG p=true):PrgR p:=by
 unfold rightG at h
 simp only[Bool.and_eq_true,Bool.not_eq_true',Bool.or_eq_false_iff,decide_eq_false_iff_not,decide_eq_true_eq,List.all_eq_true] at h
 obtain⟨⟨⟨⟨h1,h2⟩,h3⟩,h4⟩,h5⟩:=h
 refine⟨by omega,by omega,h3,fun f hf=>?_⟩
 have hk:=h4 f hf
 unfold funOK at hk
 simp only[Bool.and_eq_true,Bool.not_eq_true',Bool.or_eq_false_iff,decide_eq_false_iff_not,Bool.not_eq_false',List.all_eq_true] at hk
 obtain⟨⟨⟨⟨⟨k1,k2⟩,k3⟩,k4⟩,k5⟩,k6⟩:=hk
 refine⟨k1,k2,by omega,by omega,fun b hb=>?_⟩
 have hq:=k6 b hb
 unfold blkOK at hq
 simp only[Bool.and_eq_true,List.all_eq_true] at hq
 refine⟨hq.1,hq.2,?_⟩
 have s1:b.code.length≤fN f:=sum_mem (List.mem_map.2 ⟨b,hb,rfl⟩)
 have s2:fN f≤progN8 p.funcs:=sum_mem (l:=p.funcs.map fN) (List.mem_map.2 ⟨f,hf,rfl⟩)
 omega
theorem shape_kind {k:Int} {q:Int×Bool×Bool×Bool} (h:shapeV k=some q):1≤k∧k≤13:=by
 refine Classical.byContradiction fun hk=>?_
 unfold shapeV at h
 rw[if_neg (by omega),if_neg (by omega),if_neg (by omega),if_neg (by omega),if_neg (by omega),if_neg (by omega),if_neg (by omega),if_neg (by omega),if_neg (by omega),if_neg (by omega),if_neg (by omega),if_neg (by omega)] at h
 cases h
theorem right_kind {x:Ins} (h:rightI x=true):1≤x.kind∧x.kind≤13:=by
 rcases right_cases h with⟨h1,_⟩ | ⟨n,d,r,a,e,_,_⟩
 ·omega
 ·exact shape_kind e
theorem right_op {x:Ins} (h:rightI x=true):0≤x.op∧x.op<13:=by
 rcases right_cases h with⟨_,hp⟩ | ⟨n,d,r,a,e,_,hi,ho⟩
 ·have:=hp.op;omega
 ·by_cases hk:x.kind=2
  ·have:=ho hk
   refine Classical.byContradiction fun hc=>this ?_
   unfold opName
   by_cases h13:13≤x.op
   ·rw[if_pos h13];rfl
   ·rw[if_neg h13,show x.op.toNat=0 by omega];rfl
  ·have:x.op=0:=Classical.byContradiction fun hc=>hk (hi.op.1 hc)
   omega
theorem small_fit {x:Ins} (h:rightI x=true) (hn:inI64 x.num):FitI x:=by
 have hk:=right_kind h
 have ho:=right_op h
 obtain⟨s1,s2,s3,s4,s5,s6,s7⟩:=right_small h
 refine⟨by omega,by omega,by unfold okL;omega,by unfold okL;omega,by unfold okL;omega,by unfold bigN;omega,by unfold bigN;omega,fun a ha=>by have:=s4 a ha;unfold okL;omega,fun a ha=>by have:=s5 a ha;unfold okL;omega,hn⟩
theorem right_fit {p:Prg} (h:rightG p=true) (hn:∀f,f∈p.funcs->∀b,b∈f.blocks->∀x,x∈b.code->inI64 x.num):FitP p:=by
 obtain⟨r1,r2,r3,r4⟩:=right_prg h
 refine⟨by unfold bigL;omega,fun a ha=>?_,by unfold bigL;omega,fun f hf=>?_⟩
 ·have hk:=r3 a ha
  unfold arrOK at hk
  simp only[Bool.not_eq_true',Bool.or_eq_false_iff,decide_eq_false_iff_not,Bool.not_eq_false'] at hk
  obtain⟨⟨⟨h1,h2⟩,h3⟩,h4⟩:=hk
  have s1:=okN_size h1
  have s2:=okN_size h2
  exact⟨by unfold okL;omega,by unfold okL;omega,by unfold inI64;omega⟩
 ·obtain⟨f1,f2,f3,f4,f5⟩:=r4 f hf
  have s1:=okN_size f1
  refine⟨by unfold okL;omega,by unfold bigN;omega,fun a ha=>by have:=allN_size f2 a ha;unfold okL;omega,by unfold bigL;omega,fun b hb=>?_⟩
  obtain⟨b1,b2,b3⟩:=f5 b hb
  have s2:=okN_size b1
  exact⟨by unfold okL;omega,by unfold bigL;omega,fun x hx=>small_fit (b2 x hx) (hn f hf b hb x hx)⟩
theorem run_pc {s:ByteArray}:∀{l:List Tok} {a:Nat} {r:Int×Int},a≤s.size->Run s a l r->∀t,t∈l->Pc t.k (s.extract t.f.toNat t.t.toNat)
 | [],a,r,_,_,t,ht=>by cases ht
 | q::l,a,r,ha,h,t,ht=>by
  obtain⟨h1,h2,h3,h4,h5⟩:=h
  rcases List.mem_cons.1 ht with rfl | ht
  ·exact pc_of ha h1
  ·exact run_pc (by omega) h5 t ht
theorem num_range (s:ByteArray):inI64 (numV s).1:=by
 unfold numV inI64
 dsimp only
 split
 ·dsimp only;omega
 ·split
  ·dsimp only;omega
  ·split
   ·rename_i h
    dsimp only;omega
   ·split
    ·rename_i h
     dsimp only;omega
    ·dsimp only;omega
theorem kind_is {b:ByteArray} (h:kindOf b=1):okN b=true:=by
 unfold kindOf at h
 split at h
 ·cases h
 ·rename_i hw
  split at h
  ·rename_i hn
   unfold okN
   rw[hn]
   simpa using hw
  ·split at h<;>cases h
def NamesOK (s:ByteArray) (l:List Tok):Prop:=∀n,isV l n 1=true->okN (txV s l n)=true
theorem names_ok {s:ByteArray} (h:(allV s).2.2=0):NamesOK s (allV s).1:=fun n hn=>by
 obtain⟨hz,hb,r,_,hr⟩:=all_run h
 have hlt:=isV_lt hn
 have hk:((allV s).1.getD n tok0).k=1:=by
  unfold isV at hn
  simp only[Bool.and_eq_true,decide_eq_true_eq] at hn
  exact hn.2
 have hm:(allV s).1.getD n tok0∈(allV s).1:=getD_mem hlt
 have hp:=run_pc (Nat.zero_le _) hr _ hm
 rw[hk] at hp
 unfold txV
 rw[if_pos hlt]
 obtain⟨_,_,_,h4⟩:=hp
 rcases h4 with⟨_,_,h5⟩ | ⟨_,_,h5,_⟩
 ·exact absurd h5 (by decide)
 ·exact kind_is h5
theorem right_of_in {x:Ins} {n:Int} {d r a:Bool} (hs:shapeV x.kind=some (n,d,r,a)) (h3:x.kind≠3) (hi:RIn x n d r a) (ho:x.kind=2->(opName x.op).data.toList≠[]):rightI x=true:=by
 have c1:(decide (x.op≠0) != decide (x.kind=2))=false:=by
  by_cases e:x.op=0
  ·have:¬x.kind=2:=fun h=>(hi.op.2 h) e
   simp [e,this]
  ·have:=hi.op.1 e
   simp [e,this]
 have c2:(decide (x.op≠0)&&decide ((opName x.op).data.toList=[]))=false:=by
  by_cases e:x.op=0
  ·simp [e]
  ·have:=ho (hi.op.1 e)
   simp only[this,decide_false,Bool.and_false]
 have c3:(decide (x.num≠0)&&decide (x.kind≠1))=false:=by
  by_cases e:x.num=0
  ·simp [e]
  ·have:=hi.num e
   simp [this]
 unfold rightI
 rw[c1,c2,c3,hi.args,hi.frm,if_neg (by simp [allN]),if_neg h3,hs]
 dsimp only
 rw[hi.dst,hi.ref,hi.alt]
 have l1:=hi.alen.1
 have l2:=hi.alen.2
 have e1:(decide (0≤n)&&decide ((x.args.length:Int)≠n))=false:=by
  by_cases e:0≤n
  ·simp [l1 e]
  ·simp [e]
 rw[e1,decide_eq_false (show ¬6<x.args.length by omega)]
 rfl
theorem right_of_phi {x:Ins} (h3:x.kind=3) (hp:RPhi x):rightI x=true:=by
 unfold rightI
 rw[hp.op,hp.num,h3,hp.args,hp.frm,if_neg (by decide),if_pos rfl,hp.dst,hp.ref,hp.alt]
 have h1:=hp.len
 rw[decide_eq_true h1.1,decide_eq_true h1.2.1,decide_eq_true h1.2.2]
 rfl
theorem bnd_ok {α β:Type} {r:Except (Int×Int) (Nat×α)} {k:Nat->α->Except (Int×Int) (Nat×β)} {z:Nat×β} (h:bnd r k=.ok z):∃n a,r=.ok (n,a)∧k n a=.ok z:=by
 rcases r with e | ⟨n,a⟩
 ·cases h
 ·exact⟨n,a,rfl,h⟩
theorem close_ok {α:Type} {s:ByteArray} {l:List Tok} {b:UInt8} {r:Except (Int×Int) (Nat×α)} {n:Nat} {o:α} (h:closeV s l b r=.ok (n,o)):∃m,r=.ok (m,o):=by
 rcases r with e | ⟨m,q⟩
 ·cases h
 ·unfold closeV at h
  dsimp only at h
  split at h
  ·injection h with h;obtain⟨_,rfl⟩:=Prod.mk.inj h;exact⟨m,rfl⟩
  ·cases h
theorem opn_z (o:Int) (h:0≤o):decide ((opName o).data.toList=[])=(decide (o<1)||decide (12<o)):=by
 unfold opName
 by_cases h13:13≤o
 ·rw[if_pos h13,decide_eq_true (show 12<o by omega)]
  simp
 ·rw[if_neg h13]
  have:∀n,n<13->decide ((opAt n).data.toList=[])=(decide ((n:Int)<1)||decide (12<(n:Int))):=by decide +kernel
  have h2:=this o.toNat (by omega)
  rwa [show ((o.toNat:Nat):Int)=o by omega] at h2
theorem opF_lt (b:List UInt8):∀(k i:Nat),i+k≤13->opF b k i<13
 | 0,i,_=>by rw[opF];omega
 | k+1,i,h=>by
  rw[opF]
  split
  ·omega
  ·exact opF_lt b k (i+1) (by omega)
theorem opV_lt (w:ByteArray):opV w<13:=opF_lt _ 13 0 (by omega)
section
variable {s:ByteArray} {l:List Tok} (hN:NamesOK s l)
include hN
theorem g_nm {n n':Nat} {w:ByteArray} (h:nmV s l n=.ok (n',w)):okN w=true:=by
 unfold nmV at h
 split at h
 ·rename_i hi
  injection h with h;obtain⟨_,rfl⟩:=Prod.mk.inj h
  exact hN n hi
 ·cases h
theorem g_namesF:∀(f n k:Nat) (o:List ByteArray) {n':Nat} {q:List ByteArray},allN o=true->o.length=k->k≤6->namesF s l f n k o=.ok (n',q)->allN q=true∧q.length≤6
 | 0,_,_,_,_,_,_,_,_,h=>by cases h
 | f+1,n,k,o,n',q,ho,hk,h6,h=>by
  rw[namesF] at h
  split at h
  ·rename_i hi
   split at h
   ·cases h
   ·have ho2:allN (o++[txV s l n])=true:=by
     unfold allN at ho ⊢
     rw[List.all_append,ho]
     simp [hN n hi]
    split at h
    ·exact g_namesF f (n+2) (k+1) _ ho2 (by simp;omega) (by omega) h
    ·injection h with h;obtain⟨_,rfl⟩:=Prod.mk.inj h
     exact⟨ho2,by simp;omega⟩
  ·cases h
theorem g_names {n n':Nat} {q:List ByteArray} (h:namesV s l n=.ok (n',q)):allN q=true∧q.length≤6:=by
 unfold namesV at h
 split at h
 ·split at h
  ·injection h with h;obtain⟨_,rfl⟩:=Prod.mk.inj h
   exact⟨rfl,by simp⟩
  ·obtain⟨m,hm⟩:=close_ok h
   exact g_namesF hN _ _ 0 [] rfl rfl (by omega) hm
 ·cases h
structure PhG (a:Int) (d:ByteArray) (x:Ins):Prop where
 eq:x=⟨3,0,d, .empty, .empty,x.args,x.frm,0,a⟩
 args:allN x.args=true
 frm:allN x.frm=true
 len:x.frm.length=x.args.length
theorem g_pairsF {a:Int} {d:ByteArray}:∀(f n k:Nat) (x:Ins) {n':Nat} {y:Ins},PhG a d x->x.frm.length=k->k≤64->pairsF s l f n k x=.ok (n',y)->PhG a d y∧1≤y.frm.length∧y.frm.length≤64
 | 0,_,_,_,_,_,_,_,_,h=>by cases h
 | f+1,n,k,x,n',y,hx,hk,h64,h=>by
  rw[pairsF] at h
  split at h
  ·cases h
  ·rename_i hno
   obtain⟨n1,x1,hp,h⟩:=bnd_ok h
   unfold pairV at hp
   obtain⟨m1,w1,p1,hp⟩:=bnd_ok hp
   obtain⟨m2,w2,p2,hp⟩:=bnd_ok hp
   obtain⟨m3,w3,p3,hp⟩:=bnd_ok hp
   injection hp with hp
   obtain⟨rfl,rfl⟩:=Prod.mk.inj hp
   have hlt:k<64:=by
    have hi:isV l n 1=true:=by
     unfold nmV at p1
     split at p1
     ·assumption
     ·cases p1
    have:¬64≤k:=fun h=>hno ⟨hi,h⟩
    omega
   have hx1:PhG a d {x with frm:=x.frm++[w1],args:=x.args++[w3]}:=by
    refine⟨?_,?_,?_,?_⟩
    ·rw[hx.eq]
    ·have:=hx.args
     unfold allN at this ⊢
     rw[List.all_append,this]
     simp [g_nm hN p3]
    ·have:=hx.frm
     unfold allN at this ⊢
     rw[List.all_append,this]
     simp [g_nm hN p1]
    ·have:=hx.len;simp;omega
   split at h
   ·exact g_pairsF f _ (k+1) _ hx1 (by simp;omega) (by omega) h
   ·injection h with h;obtain⟨_,rfl⟩:=Prod.mk.inj h
    exact⟨hx1,by simp,by simp;omega⟩
theorem g_value {n n':Nat} {a:Int} {d:ByteArray} {x:Ins} (hd:okN d=true) (h:valueV s l n {ins0 a with dst:=d}=.ok (n',x)):rightI x=true∧inI64 x.num:=by
 have z0:inI64 0:=by unfold inI64;omega
 have hdt:fitsV d true=true:=by unfold fitsV;rw[hd];rfl
 have hrt:∀{w:ByteArray},okN w=true->fitsV w true=true:=fun h=>by unfold fitsV;rw[h];rfl
 have one:∀{w:ByteArray},okN w=true->allN [w]=true:=fun h=>by unfold allN;simp [h]
 unfold valueV at h
 split at h
 ·rename_i hop
  obtain⟨n1,x1,h1,h⟩:=bnd_ok h
  obtain⟨m1,w1,p1,h1⟩:=bnd_ok h1
  injection h1 with h1;obtain⟨rfl,rfl⟩:=Prod.mk.inj h1
  obtain⟨m2,w2,p2,h2⟩:=bnd_ok h
  injection h2 with h2;obtain⟨rfl,rfl⟩:=Prod.mk.inj h2
  have hlt:opV (txV s l n)<13:=opV_lt _
  have hne:(opName ((opV (txV s l n):Nat):Int)).data.toList≠[]:=by
   intro e
   have:=opn_z ((opV (txV s l n):Nat):Int) (by omega)
   rw[decide_eq_true e] at this
   simp only[Bool.true_eq,Bool.or_eq_true,decide_eq_true_eq] at this
   omega
  refine⟨right_of_in (n:=2) (d:=true) (r:=false) (a:=false) rfl (by show (2:Int)≠3;decide) ⟨?_,rfl,⟨fun _=>rfl,by show 2≤6;decide⟩,hdt,rfl,rfl,?_,fun h=>absurd rfl h⟩ fun _=>hne,z0⟩
  ·unfold allN;simp [ins0,g_nm hN p1,g_nm hN p2]
  ·constructor
   ·intro _;rfl
   ·intro _
    show ((opV (txV s l n):Nat):Int)≠0
    omega
 ·unfold wordV at h
  split at h
  ·unfold constV at h
   split at h
   ·injection h with h;obtain⟨_,rfl⟩:=Prod.mk.inj h
    exact⟨right_of_in (n:=0) (d:=true) (r:=false) (a:=false) rfl (by show (1:Int)≠3;decide) ⟨rfl,rfl,⟨fun _=>rfl,by show 0≤6;decide⟩,hdt,rfl,rfl,⟨fun h=>absurd rfl h,fun h=>absurd h (by show ¬(1:Int)=2;decide)⟩,fun _=>rfl⟩ (fun h=>absurd h (by show ¬(1:Int)=2;decide)),num_range _⟩
   ·cases h
  split at h
  ·obtain⟨n1,x1,h1,h⟩:=bnd_ok h
   obtain⟨m1,w1,p1,h1⟩:=bnd_ok h1
   injection h1 with h1;obtain⟨rfl,rfl⟩:=Prod.mk.inj h1
   obtain⟨m2,w2,p2,h2⟩:=bnd_ok h
   injection h2 with h2;obtain⟨rfl,rfl⟩:=Prod.mk.inj h2
   exact⟨right_of_in (n:=1) (d:=true) (r:=true) (a:=false) rfl (by show (4:Int)≠3;decide) ⟨one (g_nm hN p2),rfl,⟨fun _=>rfl,by show 1≤6;decide⟩,hdt,hrt (g_nm hN p1),rfl,⟨fun h=>absurd rfl h,fun h=>absurd h (by show ¬(4:Int)=2;decide)⟩,fun h=>absurd rfl h⟩ (fun h=>absurd h (by show ¬(4:Int)=2;decide)),z0⟩
  split at h
  ·obtain⟨n1,x1,h1,h⟩:=bnd_ok h
   obtain⟨m1,w1,p1,h1⟩:=bnd_ok h1
   injection h1 with h1;obtain⟨rfl,rfl⟩:=Prod.mk.inj h1
   obtain⟨m2,w2,p2,h2⟩:=bnd_ok h
   injection h2 with h2;obtain⟨rfl,rfl⟩:=Prod.mk.inj h2
   exact⟨right_of_in (n:=1) (d:=true) (r:=true) (a:=false) rfl (by show (5:Int)≠3;decide) ⟨one (g_nm hN p2),rfl,⟨fun _=>rfl,by show 1≤6;decide⟩,hdt,hrt (g_nm hN p1),rfl,⟨fun h=>absurd rfl h,fun h=>absurd h (by show ¬(5:Int)=2;decide)⟩,fun h=>absurd rfl h⟩ (fun h=>absurd h (by show ¬(5:Int)=2;decide)),z0⟩
  split at h
  ·obtain⟨m1,w1,p1,h1⟩:=bnd_ok h
   injection h1 with h1;obtain⟨rfl,rfl⟩:=Prod.mk.inj h1
   exact⟨right_of_in (n:=0) (d:=true) (r:=true) (a:=false) rfl (by show (8:Int)≠3;decide) ⟨rfl,rfl,⟨fun _=>rfl,by show 0≤6;decide⟩,hdt,hrt (g_nm hN p1),rfl,⟨fun h=>absurd rfl h,fun h=>absurd h (by show ¬(8:Int)=2;decide)⟩,fun h=>absurd rfl h⟩ (fun h=>absurd h (by show ¬(8:Int)=2;decide)),z0⟩
  split at h
  ·obtain⟨n1,x1,h1,h⟩:=bnd_ok h
   obtain⟨m1,w1,p1,h1⟩:=bnd_ok h1
   injection h1 with h1;obtain⟨rfl,rfl⟩:=Prod.mk.inj h1
   obtain⟨m2,w2,p2,h2⟩:=bnd_ok h
   injection h2 with h2;obtain⟨rfl,rfl⟩:=Prod.mk.inj h2
   obtain⟨q1,q2⟩:=g_names hN p2
   exact⟨right_of_in (n:=-1) (d:=true) (r:=true) (a:=false) rfl (by show (7:Int)≠3;decide) ⟨q1,rfl,⟨fun h=>absurd h (by decide),q2⟩,hdt,hrt (g_nm hN p1),rfl,⟨fun h=>absurd rfl h,fun h=>absurd h (by show ¬(7:Int)=2;decide)⟩,fun h=>absurd rfl h⟩ (fun h=>absurd h (by show ¬(7:Int)=2;decide)),z0⟩
  split at h
  ·obtain⟨n1,x1,h1,h⟩:=bnd_ok h
   obtain⟨m1,w1,p1,h1⟩:=bnd_ok h1
   injection h1 with h1;obtain⟨rfl,rfl⟩:=Prod.mk.inj h1
   obtain⟨m2,w2,p2,h2⟩:=bnd_ok h
   injection h2 with h2;obtain⟨rfl,rfl⟩:=Prod.mk.inj h2
   exact⟨right_of_in (n:=1) (d:=true) (r:=true) (a:=false) rfl (by show (10:Int)≠3;decide) ⟨one (g_nm hN p1),rfl,⟨fun _=>rfl,by show 1≤6;decide⟩,hdt,hrt (g_nm hN p2),rfl,⟨fun h=>absurd rfl h,fun h=>absurd h (by show ¬(10:Int)=2;decide)⟩,fun h=>absurd rfl h⟩ (fun h=>absurd h (by show ¬(10:Int)=2;decide)),z0⟩
  split at h
  ·obtain⟨n1,_,h1,h⟩:=bnd_ok h
   obtain⟨m,hm⟩:=close_ok h
   obtain⟨g1,g2,g3⟩:=g_pairsF hN (a:=a) (d:=d) _ _ 0 _ ⟨rfl,rfl,rfl,rfl⟩ rfl (by omega) hm
   have e:=g1.eq
   have k3:x.kind=3:=by rw[e]
   have o0:x.op=0:=by rw[e]
   have d0:x.dst=d:=by rw[e]
   have r0:x.ref=.empty:=by rw[e]
   have a0:x.alt=.empty:=by rw[e]
   have m0:x.num=0:=by rw[e]
   exact⟨right_of_phi k3 ⟨g1.args,g1.frm,by rw[d0];exact hd,r0,a0,⟨g1.len,g2,g3⟩,o0,m0⟩,by rw[m0];exact z0⟩
  ·cases h
end
theorem ok_inj {α:Type} {a b:Nat×α} (h:(Except.ok a:Except (Int×Int) (Nat×α))=.ok b):a=b:=by cases h;rfl
section
variable {s:ByteArray} {l:List Tok} (hN:NamesOK s l)
include hN
theorem g_instr {n n' c:Nat} {x:Ins} (h:instrV s l n c=.ok (n',x)):rightI x=true∧inI64 x.num∧c<4096:=by
 have z0:inI64 0:=by unfold inI64;omega
 have hrt:∀{w:ByteArray},okN w=true->fitsV w true=true:=fun h=>by unfold fitsV;rw[h];rfl
 have one:∀{w:ByteArray},okN w=true->allN [w]=true:=fun h=>by unfold allN;simp [h]
 unfold instrV at h
 split at h
 ·cases h
 split at h
 ·cases h
 split at h
 ·cases h
 rename_i hc
 have hc:c<4096:=by omega
 split at h
 ·rename_i g hg
  unfold actV at hg
  split at hg
  ·obtain rfl:=Option.some.inj hg
   unfold act1V at h
   dsimp only at h
   obtain⟨m1,w1,p1,h1⟩:=bnd_ok h
   obtain⟨m2,x2,p2,h2⟩:=bnd_ok h1
   obtain⟨m3,x3,p3,h3⟩:=bnd_ok h2
   obtain⟨m4,w4,p4,qp2⟩:=bnd_ok p2
   obtain⟨m5,w5,p5,qp3⟩:=bnd_ok p3
   obtain⟨rfl,rfl⟩:=Prod.mk.inj (ok_inj qp2)
   obtain⟨rfl,rfl⟩:=Prod.mk.inj (ok_inj qp3)
   obtain⟨rfl,rfl⟩:=Prod.mk.inj (ok_inj h3)
   refine⟨right_of_in (n:=2) (d:=false) (r:=true) (a:=false) rfl (by show (6:Int)≠3;decide) ⟨?_,rfl,⟨fun _=>rfl,by show 2≤6;decide⟩,rfl,hrt (g_nm hN p1),rfl,⟨fun h=>absurd rfl h,fun h=>absurd h (by show ¬(6:Int)=2;decide)⟩,fun h=>absurd rfl h⟩ (fun h=>absurd h (by show ¬(6:Int)=2;decide)),z0,hc⟩
   unfold allN;simp [ins0,g_nm hN p4,g_nm hN p5]
  split at hg
  ·obtain rfl:=Option.some.inj hg
   unfold act2V at h
   dsimp only at h
   obtain⟨m1,w1,p1,h1⟩:=bnd_ok h
   obtain⟨m2,x2,p2,h2⟩:=bnd_ok h1
   obtain⟨m4,w4,p4,qp2⟩:=bnd_ok p2
   obtain⟨rfl,rfl⟩:=Prod.mk.inj (ok_inj qp2)
   obtain⟨rfl,rfl⟩:=Prod.mk.inj (ok_inj h2)
   exact⟨right_of_in (n:=1) (d:=false) (r:=true) (a:=false) rfl (by show (9:Int)≠3;decide) ⟨one (g_nm hN p4),rfl,⟨fun _=>rfl,by show 1≤6;decide⟩,rfl,hrt (g_nm hN p1),rfl,⟨fun h=>absurd rfl h,fun h=>absurd h (by show ¬(9:Int)=2;decide)⟩,fun h=>absurd rfl h⟩ (fun h=>absurd h (by show ¬(9:Int)=2;decide)),z0,hc⟩
  split at hg
  ·obtain rfl:=Option.some.inj hg
   unfold act3V at h
   dsimp only at h
   obtain⟨m1,w1,p1,h1⟩:=bnd_ok h
   obtain⟨rfl,rfl⟩:=Prod.mk.inj (ok_inj h1)
   exact⟨right_of_in (n:=0) (d:=false) (r:=true) (a:=false) rfl (by show (11:Int)≠3;decide) ⟨rfl,rfl,⟨fun _=>rfl,by show 0≤6;decide⟩,rfl,hrt (g_nm hN p1),rfl,⟨fun h=>absurd rfl h,fun h=>absurd h (by show ¬(11:Int)=2;decide)⟩,fun h=>absurd rfl h⟩ (fun h=>absurd h (by show ¬(11:Int)=2;decide)),z0,hc⟩
  split at hg
  ·obtain rfl:=Option.some.inj hg
   unfold act4V at h
   dsimp only at h
   obtain⟨m1,x1,p1,h1⟩:=bnd_ok h
   obtain⟨m4,w4,p4,qp1⟩:=bnd_ok p1
   obtain⟨rfl,rfl⟩:=Prod.mk.inj (ok_inj qp1)
   obtain⟨m2,w2,p2,h2⟩:=bnd_ok h1
   obtain⟨m3,w3,p3,h3⟩:=bnd_ok h2
   obtain⟨rfl,rfl⟩:=Prod.mk.inj (ok_inj h3)
   exact⟨right_of_in (n:=1) (d:=false) (r:=true) (a:=true) rfl (by show (12:Int)≠3;decide) ⟨one (g_nm hN p4),rfl,⟨fun _=>rfl,by show 1≤6;decide⟩,rfl,hrt (g_nm hN p2),hrt (g_nm hN p3),⟨fun h=>absurd rfl h,fun h=>absurd h (by show ¬(12:Int)=2;decide)⟩,fun h=>absurd rfl h⟩ (fun h=>absurd h (by show ¬(12:Int)=2;decide)),z0,hc⟩
  split at hg
  ·obtain rfl:=Option.some.inj hg
   obtain⟨m1,x1,p1,h1⟩:=bnd_ok h
   obtain⟨m4,w4,p4,qp1⟩:=bnd_ok p1
   obtain⟨rfl,rfl⟩:=Prod.mk.inj (ok_inj qp1)
   obtain⟨rfl,rfl⟩:=Prod.mk.inj (ok_inj h1)
   exact⟨right_of_in (n:=1) (d:=false) (r:=false) (a:=false) rfl (by show (13:Int)≠3;decide) ⟨one (g_nm hN p4),rfl,⟨fun _=>rfl,by show 1≤6;decide⟩,rfl,rfl,rfl,⟨fun h=>absurd rfl h,fun h=>absurd h (by show ¬(13:Int)=2;decide)⟩,fun h=>absurd rfl h⟩ (fun h=>absurd h (by show ¬(13:Int)=2;decide)),z0,hc⟩
  ·cases hg
 ·obtain⟨m1,w1,p1,h1⟩:=bnd_ok h
  obtain⟨m2,w2,p2,h2⟩:=bnd_ok h1
  obtain⟨g1,g2⟩:=g_value hN (g_nm hN p1) h2
  exact⟨g1,g2,hc⟩
def InsG (x:Ins):Prop:=rightI x=true∧inI64 x.num
theorem g_code:∀(f n c:Nat) (xs:List Ins) {n' c':Nat} {ys:List Ins},c≤4096->(∀x,x∈xs->InsG x)->codeF s l f n c xs=.ok (n',(c',ys))->(∀x,x∈ys->InsG x)∧c'≤4096∧c'+xs.length=c+ys.length
 | 0,_,_,_,_,_,_,_,_,h=>by cases h
 | f+1,n,c,xs,n',c',ys,hc,hx,h=>by
  rw[codeF] at h
  split at h
  ·obtain⟨_,h⟩:=Prod.mk.inj (ok_inj h)
   obtain⟨rfl,rfl⟩:=Prod.mk.inj h
   exact⟨hx,hc,rfl⟩
  ·obtain⟨m,x,p,h⟩:=bnd_ok h
   obtain⟨q1,q2,q3⟩:=g_instr hN p
   obtain⟨k1,k2,k3⟩:=g_code f m (c+1) (xs++[x]) (by omega) (fun y hy=>by
    rcases List.mem_append.1 hy with hy | hy
    ·exact hx y hy
    ·rw[List.mem_singleton.1 hy];exact⟨q1,q2⟩) h
   refine⟨k1,k2,?_⟩
   simp only[List.length_append,List.length_cons,List.length_nil] at k3
   omega
structure BlkG (b:Blk):Prop where
 name:okN b.name=true
 code:∀x,x∈b.code->InsG x
theorem g_block {n c n' c':Nat} {b:Blk} (hc:c≤4096) (h:blockV s l n c=.ok (n',(c',b))):BlkG b∧c'≤4096∧c'=c+b.code.length:=by
 unfold blockV at h
 obtain⟨m1,w1,p1,h⟩:=bnd_ok h
 obtain⟨m2,w2,p2,h⟩:=bnd_ok h
 obtain⟨m3,⟨c3,ys⟩,p3,h⟩:=bnd_ok h
 obtain⟨_,h⟩:=Prod.mk.inj (ok_inj h)
 obtain⟨rfl,rfl⟩:=Prod.mk.inj h
 obtain⟨k1,k2,k3⟩:=g_code hN _ _ _ [] hc (fun x hx=>by cases hx) p3
 simp only[List.length_nil] at k3
 exact⟨⟨g_nm hN p1,k1⟩,k2,by show c3=_;dsimp only;omega⟩
theorem g_blocks:∀(f n c:Nat) (bs:List Blk) {n' c':Nat} {ys:List Blk},c≤4096->bs.length≤64->(∀b,b∈bs->BlkG b)->blocksF s l f n c bs=.ok (n',(c',ys))->(∀b,b∈ys->BlkG b)∧c'≤4096∧c'+cN bs=c+cN ys∧ys.length≤64∧bs.length≤ys.length
 | 0,_,_,_,_,_,_,_,_,_,h=>by cases h
 | f+1,n,c,bs,n',c',ys,hc,h64,hb,h=>by
  rw[blocksF] at h
  split at h
  ·split at h
   ·cases h
   ·rename_i hlt
    obtain⟨m,⟨c1,b⟩,p,h⟩:=bnd_ok h
    obtain⟨q1,q2,q3⟩:=g_block hN hc p
    obtain⟨k1,k2,k3,k4,k5⟩:=g_blocks f m c1 (bs++[b]) q2 (by simp;omega) (fun y hy=>by
     rcases List.mem_append.1 hy with hy | hy
     ·exact hb y hy
     ·rw[List.mem_singleton.1 hy];exact q1) h
    have e:cN (bs++[b])=cN bs+b.code.length:=by unfold cN;rw[List.map_append,List.sum_append];simp
    simp only[List.length_append,List.length_cons,List.length_nil] at k5
    exact⟨k1,k2,by omega,k4,by omega⟩
  ·obtain⟨_,h⟩:=Prod.mk.inj (ok_inj h)
   obtain⟨rfl,rfl⟩:=Prod.mk.inj h
   exact⟨hb,hc,rfl,h64,Nat.le_refl _⟩
structure FunG (f:Fun):Prop where
 name:okN f.name=true
 params:allN f.params=true
 plen:f.params.length≤6
 blen:1≤f.blocks.length∧f.blocks.length≤64
 blocks:∀b,b∈f.blocks->BlkG b
theorem g_func {n c n' c':Nat} {f:Fun} (hc:c≤4096) (h:funcV s l n c=.ok (n',(c',f))):FunG f∧c'≤4096∧c'=c+fN f:=by
 unfold funcV at h
 obtain⟨m1,w1,p1,h⟩:=bnd_ok h
 obtain⟨m2,w2,p2,h⟩:=bnd_ok h
 obtain⟨m3,w3,p3,h⟩:=bnd_ok h
 obtain⟨m4,⟨c4,b4⟩,p4,h⟩:=bnd_ok h
 obtain⟨m5,⟨c5,b5⟩,p5,h⟩:=bnd_ok h
 obtain⟨m6,w6,p6,h⟩:=bnd_ok h
 obtain⟨_,h⟩:=Prod.mk.inj (ok_inj h)
 obtain⟨rfl,rfl⟩:=Prod.mk.inj h
 obtain⟨q1,q2⟩:=g_names hN p2
 obtain⟨r1,r2,r3⟩:=g_block hN hc p4
 obtain⟨k1,k2,k3,k4,k5⟩:=g_blocks hN _ _ _ [b4] r2 (by simp) (fun y hy=>by rw[List.mem_singleton.1 hy];exact r1) p5
 have e:cN [b4]=b4.code.length:=by simp [cN]
 have e2:fN ⟨w1,w2,b5,atV s l n⟩=cN b5:=rfl
 simp only[List.length_cons,List.length_nil] at k5
 exact⟨⟨g_nm hN p1,q1,q2,⟨by show 1≤b5.length;omega,k4⟩,k1⟩,k2,by show c5=_;rw[e2];omega⟩
theorem g_arr {n n':Nat} {a:Arr} (h:arrV s l n=.ok (n',a)):arrOK a=true:=by
 unfold arrV at h
 obtain⟨m1,w1,p1,h⟩:=bnd_ok h
 split at h
 ·split at h
  ·cases h
  ·rename_i hr
   obtain⟨m2,w2,p2,h⟩:=bnd_ok h
   obtain⟨_,rfl⟩:=Prod.mk.inj (ok_inj h)
   unfold arrOK
   rw[show okN w1=true from g_nm hN p1,show okN w2=true from g_nm hN p2]
   dsimp only
   rw[decide_eq_false (show ¬(numV (txV s l m1)).1<1 by omega),decide_eq_false (show ¬256<(numV (txV s l m1)).1 by omega)]
   rfl
 ·cases h
structure PrgG (p:Prg):Prop where
 alen:p.arrays.length≤16
 flen:p.funcs.length≤64
 arrays:∀a,a∈p.arrays->arrOK a=true
 funcs:∀f,f∈p.funcs->FunG f
 few:progN8 p.funcs≤4096
theorem g_prog:∀(f n c:Nat) (p:Prg) {n':Nat} {q:Prg},PrgG p->c=progN8 p.funcs->progF s l f n c p=.ok (n',q)->PrgG q
 | 0,_,_,_,_,_,_,_,h=>by cases h
 | f+1,n,c,p,n',q,hp,hc,h=>by
  have hfew:=hp.few
  rw[progF] at h
  split at h
  ·split at h
   ·split at h
    ·cases h
    ·rename_i h16
     obtain⟨m,a,k,h⟩:=bnd_ok h
     have ha:=g_arr hN k
     exact g_prog f m c ⟨p.arrays++[a],p.funcs⟩ ⟨by simp;omega,hp.flen,fun y hy=>by
      rcases List.mem_append.1 hy with hy | hy
      ·exact hp.arrays y hy
      ·rw[List.mem_singleton.1 hy];exact ha,hp.funcs,hp.few⟩ hc h
   ·split at h
    ·split at h
     ·cases h
     ·rename_i h64
      obtain⟨m,⟨c1,g⟩,k,h⟩:=bnd_ok h
      obtain⟨q1,q2,q3⟩:=g_func hN (by omega) k
      have e:progN8 (p.funcs++[g])=progN8 p.funcs+fN g:=by
       show ((p.funcs++[g]).map fN).sum=(p.funcs.map fN).sum+fN g
       rw[List.map_append,List.sum_append];simp
      exact g_prog f m c1 ⟨p.arrays,p.funcs++[g]⟩ ⟨hp.alen,by simp;omega,hp.arrays,fun y hy=>by
       rcases List.mem_append.1 hy with hy | hy
       ·exact hp.funcs y hy
       ·rw[List.mem_singleton.1 hy];exact q1,by show progN8 (p.funcs++[g])≤4096;omega⟩ (by show c1=progN8 (p.funcs++[g]);omega) h
    ·cases h
  ·obtain⟨_,rfl⟩:=Prod.mk.inj (ok_inj h)
   exact hp
end
theorem prg_right {p:Prg} (h:PrgG p):rightG p=true∧∀f,f∈p.funcs->∀b,b∈f.blocks->∀x,x∈b.code->inI64 x.num:=by
 refine⟨?_,fun f hf b hb x hx=>(((h.funcs f hf).blocks b hb).code x hx).2⟩
 have e1:p.arrays.all arrOK=true:=List.all_eq_true.2 h.arrays
 have e2:p.funcs.all funOK=true:=List.all_eq_true.2 fun f hf=>by
  have g:=h.funcs f hf
  have e3:f.blocks.all blkOK=true:=List.all_eq_true.2 fun b hb=>by
   have k:=g.blocks b hb
   unfold blkOK
   rw[k.name,List.all_eq_true.2 fun x hx=>(k.code x hx).1];rfl
  unfold funOK
  have l1:=g.plen
  have l2:=g.blen
  rw[e3,g.name,g.params,decide_eq_false (show ¬6<f.params.length by omega),decide_eq_false (show ¬f.blocks.length<1 by omega),decide_eq_false (show ¬64<f.blocks.length by omega)]
  rfl
 unfold rightG
 have l1:=h.alen
 have l2:=h.flen
 rw[e1,e2,decide_eq_true h.few,decide_eq_false (show ¬16<p.arrays.length by omega),decide_eq_false (show ¬64<p.funcs.length by omega)]
 rfl
theorem parse_rightG {s:ByteArray} (h:(parseV s).2.2=0):rightG (parseV s).1=true∧∀f,f∈(parseV s).1.funcs->∀b,b∈f.blocks->∀x,x∈b.code->inI64 x.num:=by
 unfold parseV at h ⊢
 split at h
 ·rename_i h0
  rw[if_pos h0]
  rcases hV:progF s (allV s).1 ((allV s).1.length+1) 0 0 ⟨[],[]⟩ with⟨a,e⟩ | ⟨n',q⟩
  ·rw[hV] at h
   have h:e=0:=h
   exact prg_right (p:=⟨[],[]⟩) ⟨Nat.zero_le _,Nat.zero_le _,fun a ha=>(by simp at ha),fun f hf=>(by simp at hf),Nat.zero_le _⟩
  ·exact prg_right (g_prog (names_ok h0) _ _ _ ⟨[],[]⟩ ⟨Nat.zero_le _,Nat.zero_le _,fun a ha=>(by simp at ha),fun f hf=>(by simp at hf),Nat.zero_le _⟩ rfl hV)
 ·rename_i h0
  exact absurd h h0
end Go.Proofs.YtojhdmfkfkfcbaaGreatDoor
namespace Go.Proofs.YtojhdmfkfkfcbaaGreatDoor
open Go.Sx
set_option linter.unusedVariables false
set_option linter.unusedSimpArgs false
def StrZ (s:ByteArray):Prop:=s.size≤140737488355328
structure PolOK (p:Pol):Prop where
 sz:PolSz p
 lev:∀s∈p.lev,StrZ s
 ins:∀c∈p.ins,StrZ c.1∧inI64 c.2
 outs:∀c∈p.outs,StrZ c.1∧inI64 c.2
 depth:inI64 p.depth
theorem returns_shaped {H:Type} {enc:TypeId×Value->H} {a:Assume} {C:Checked} {os:Os} {f:FuncId} {fn:Func} {s:ChangeSpec} {conds:List PathCond} {apart fresh handsOn again:Bool} {X:World->Array Value->Prop}
  (hX:∀(w w':World) (args:Array Value),w.heap=w'.heap->X w args->X w' args)
  (own:ownKnob C.prog.godebug=none) (started:os.Started) (noInit:C.prog.inits.idxOf? f=none) (hfn:C.prog.funcs[f]?=some fn)
  (witness:∃(w:World) (tape:Tape) (i:Input),w.os=os∧(w.forCall tape i).Shaped C.prog∧i.vars=[]∧Input.okWide C.prog (w.forCall tape i) .any w.heap.size f i∧
   ((s.pre enc C.prog fn conds apart (w.forCall tape i).memory i.args∧X (w.forCall tape i).memory i.args)∧sizedMet enc C.prog fn (OpenSpec.ofChange s) apart (w.forCall tape i).memory i.args)∧a.holds C.prog (lone (Frame.enter C.prog f i.args .normal) [] (w.forCall tape i)))
  (walk:∀(W:World) (base:Nat) (args:Array Value) (ds gs:List (DataW H)) (before:List MemPlace),W.ShapedOpen C.prog->
   (∀(j:Nat) t v,fn.params[j]?=some t->args[j]?=some v->Value.okWide C.prog W .any base t v)->
   DataW.Whole enc C.prog fn.params.toList s.vars apart W args.toList ds gs before->
   conds.all (PathCond.test C.prog ⟨fn.params.toList,ds,s.plain.varTypes C.prog,gs⟩)=true->
   (DataW.weightsEach C.prog (fn.params.toList++s.plain.varTypes C.prog) (ds++gs)).all (·≤reachBytes)=true->X W args->
   a.holds C.prog (lone (Frame.enter C.prog f args .normal) [] W)->
   Calls C.prog f args W fun e W'=>∃v,e=.returned v∧s.post enc C.prog fn apart fresh handsOn again W args v W') :
  ReturnsInHanded a C os f .any (fun w args=>(s.pre enc C.prog fn conds apart w args∧X w args)∧sizedMet enc C.prog fn (OpenSpec.ofChange s) apart w args) (s.post enc C.prog fn apart fresh handsOn again):=
 returnsInHanded_of_calls own started noInit witness fun w tape i _ hshape _ hin ⟨⟨⟨ds,gs,before,hwhole,hcond⟩,hx⟩,hz⟩ hh=>by
  obtain⟨_,_,_,fn',e,_,_,_,_,hv⟩:=hin
  cases hfn.symm.trans e
  refine (walk _ w.heap.size i.args ds gs before hshape hv (DataW.Whole.of_heap (w':=w.forCall tape i) (by rfl) hwhole) hcond (hz.weights hwhole) (hX _ _ _ (by rfl) hx) hh).mono ?_
  rintro e W' ⟨v,rfl,hp⟩
  exact ChangeSpec.post_blind hp
end Go.Proofs.YtojhdmfkfkfcbaaGreatDoor
namespace Go.Proofs.YtojhdmfkfkfcbaaGreatDoor
open Go.Sx
set_option linter.unusedVariables false
set_option linter.unusedSimpArgs false
set_option maxRecDepth 100000
theorem PolOK.z {p:Pol} (h:PolOK p):PolZ p:=⟨h.sz,fun s hs=>Nat.le_trans (h.lev s hs) (by decide),fun c hc=>Nat.le_trans (h.ins c hc).1 (by decide),fun c hc=>Nat.le_trans (h.outs c hc).1 (by decide)⟩
theorem PolR.z {p:Pol} (h:PolR p):PolZ p:=by
 have ho:orderM p.up=true:=by have:=h.up;unfold rightM at this;rw[Bool.and_eq_true] at this;exact this.1
 have hl:=(order_len ho).2
 have h1:=h.len
 have h2:=h.il
 have h3:=h.ol
 exact⟨⟨by omega,by omega,by omega,by omega⟩,fun s hs=>by have:=(gw_name (h.names s hs)).2.1;omega,fun c hc=>by have:=(gw_name (h.iok c hc).1).2.1;omega,fun c hc=>by have:=(gw_name (h.ook c hc).1).2.1;omega⟩
structure AtQ (m:Int) (q:Prg):Prop where
 arr:∀a∈q.arrays,0≤a.at_∧a.at_≤m
 fn:∀f∈q.funcs,0≤f.at_∧f.at_≤m
 blk:∀f∈q.funcs,∀b∈f.blocks,0≤b.at_∧b.at_≤m
 ins:∀f∈q.funcs,∀b∈f.blocks,∀x∈b.code,0≤x.at_∧x.at_≤m
theorem atV_in {s:ByteArray} {l:List Tok} (H:Lies s l) (k:Nat):0≤atV s l k∧atV s l k≤(s.size:Int):=by
 have:=qq_at (α:=Unit) (p:=fun _=>True) H k 0
 exact this
theorem chn_at {s:ByteArray} {l:List Tok} (H:Lies s l):∀{xs:List Ins} {lo hi:Nat},Chn s l lo xs hi->∀x∈xs,0≤x.at_∧x.at_≤(s.size:Int)
 | [],_,_,_,x,hx=>by cases hx
 | y::ys,lo,hi,⟨k,_,_,hp,hc⟩,x,hx=>by
  rcases List.mem_cons.1 hx with rfl | hx
  ·rw[hp.1];exact atV_in H k
  ·exact chn_at H hc x hx
theorem chb_at {s:ByteArray} {l:List Tok} (H:Lies s l):∀{bs:List Blk} {lo hi:Nat},ChB s l lo bs hi->∀b∈bs,(0≤b.at_∧b.at_≤(s.size:Int))∧∀x∈b.code,0≤x.at_∧x.at_≤(s.size:Int)
 | [],_,_,_,x,hx=>by cases hx
 | y::ys,lo,hi,⟨k,m,_,_,hp,hc,hr⟩,x,hx=>by
  rcases List.mem_cons.1 hx with rfl | hx
  ·exact⟨by rw[hp];exact atV_in H k,chn_at H hc⟩
  ·exact chb_at H hr x hx
theorem prog_arrs {s:ByteArray} {l:List Tok} (H:Lies s l):∀{f n c:Nat} {p:Prg} {n':Nat} {q:Prg},(∀a∈p.arrays,0≤a.at_∧a.at_≤(s.size:Int))->progF s l f n c p=.ok (n',q)->∀a∈q.arrays,0≤a.at_∧a.at_≤(s.size:Int)
 | 0,n,c,p,n',q,hp,h=>by cases h
 | f+1,n,c,p,n',q,hp,h=>by
  rw[progF] at h
  split at h
  ·split at h
   ·split at h
    ·cases h
    ·obtain⟨n1,x,h1,h2⟩:=bnd_ok h
     refine prog_arrs H (p:=⟨p.arrays++[x],p.funcs⟩) (fun a ha=>?_) h2
     rcases List.mem_append.1 ha with ha | ha
     ·exact hp a ha
     ·obtain rfl:=List.mem_singleton.1 ha
      unfold arrV at h1
      obtain⟨n2,nm,g1,g2⟩:=bnd_ok h1
      split at g2
      ·split at g2
       ·cases g2
       ·obtain⟨n3,lv,g3,g4⟩:=bnd_ok g2
        cases g4
        exact atV_in H n
      ·cases g2
   ·split at h
    ·split at h
     ·cases h
     ·obtain⟨n1,x,h1,h2⟩:=bnd_ok h
      exact prog_arrs H (p:=⟨p.arrays,p.funcs++[x.2]⟩) hp h2
    ·cases h
  ·cases h;exact hp
theorem parse_at {s:ByteArray} (h:(parseV s).2.2=0):AtQ (s.size:Int) (parseV s).1:=by
 have hc:=((parse_chain s).2 h)
 have h0:=hc.1
 have H:=all_lies s (all_small h0)
 have ha:∀a∈(parseV s).1.arrays,0≤a.at_∧a.at_≤(s.size:Int):=by
  unfold parseV at h ⊢
  rw[if_pos h0] at h ⊢
  rcases hV:progF s (allV s).1 ((allV s).1.length+1) 0 0 ⟨[],[]⟩ with⟨a,e⟩ | ⟨n',q⟩
  ·intro a ha;cases ha
  ·exact prog_arrs H (p:=⟨[],[]⟩) (fun a ha=>by cases ha) hV
 refine⟨ha,fun f hf=>?_,fun f hf b hb=>?_,fun f hf b hb=>?_⟩
 ·obtain⟨k,hi,_,_,e,_⟩:=hc.2 f hf
  rw[e];exact atV_in H k
 ·obtain⟨k,hi,_,_,e,hB⟩:=hc.2 f hf
  exact (chb_at H hB b hb).1
 ·obtain⟨k,hi,_,_,e,hB⟩:=hc.2 f hf
  exact (chb_at H hB b hb).2
def Ers {α:Type} (m:Int) (r:Flt α):Prop:=∀e,r=.error e->(0≤e.1∧e.1≤m)∧e.2≠0
theorem ers_bd {α β:Type} {m:Int} {r:Flt α} {k:α->Flt β} (h1:Ers m r) (h2:∀a,Ers m (k a)):Ers m (bd r k):=by
 rcases r with e | a
 ·intro e' he
  cases he
  exact h1 e rfl
 ·exact h2 a
theorem ers_ok {α:Type} {m:Int} (a:α):Ers m (.ok a):=fun e h=>by cases h
theorem ers_no {α:Type} {m a k:Int} (h:0≤a∧a≤m) (hk:k≠0:=by decide):Ers (α:=α) m (.error (a,k)):=fun e he=>by cases he;exact⟨h,hk⟩
theorem ers_nms {m:Int}:∀{L:List (ByteArray×Int)} {acc:List ByteArray},(∀e∈L,0≤e.2∧e.2≤m)->Ers m (nmsF acc L)
 | [],acc,_=>ers_ok _
 | (s,a)::r,acc,h=>by
  rw[nmsF]
  split
  ·exact ers_no (h _ (.head _))
  ·exact ers_nms fun e he=>h e (.tail _ he)
theorem ers_look {m a:Int} {l:List ByteArray} {s:ByteArray} (h:0≤a∧a≤m):Ers m (lookV l s a):=by
 unfold lookV;split
 ·exact ers_ok _
 ·exact ers_no h
theorem ers_known {m n a:Int} (h:0≤a∧a≤m):Ers m (knownV n a):=by
 unfold knownV;split
 ·exact ers_ok _
 ·exact ers_no h
theorem ers_looks {m a:Int} {l:List ByteArray} (h:0≤a∧a≤m):∀{r:List ByteArray} {acc:List Int},Ers m (looksF l a r acc)
 | [],_=>ers_ok _
 | s::r,acc=>by rw[looksF];exact ers_bd (ers_look h) fun _=>ers_looks h
theorem ers_refs {m:Int} {R:Res} {s:Scp} {x:Ins} (h:0≤x.at_∧x.at_≤m):Ers m (refsV R s x):=by
 unfold refsV
 repeat' split
 all_goals first
  | exact ers_bd (ers_look h) fun _=>ers_ok _
  | exact ers_bd (ers_known h) fun _=>ers_ok _
  | exact ers_bd (ers_look h) fun _=>ers_bd (ers_look h) fun _=>ers_ok _
  | exact ers_ok _
theorem ers_op9 {m:Int} {R:Res} {s:Scp} {x:Ins} (h:0≤x.at_∧x.at_≤m):Ers m (op9V R s x):=by
 unfold op9V
 refine ers_bd (ers_refs h) fun _=>ers_bd (ers_looks h) fun _=>ers_bd (ers_looks h) fun _=>?_
 split
 ·exact ers_no h
 ·exact ers_ok _
theorem ers_acc {α β:Type} {m:Int} {g:Nat->α->Flt β}:∀{l:List α} {i:Nat} {acc:List β},(∀j a,a∈l->Ers m (g j a))->Ers m (accF g l i acc)
 | [],_,_,_=>ers_ok _
 | a::l,i,acc,h=>by rw[accF];exact ers_bd (h _ _ (.head _)) fun _=>ers_acc fun j b hb=>h j b (.tail _ hb)
theorem ers_ops {m:Int} {R:Res} {s:Scp} {code:List Ins} (h:∀x∈code,0≤x.at_∧x.at_≤m):∀(f i:Nat) (acc:List Op9),i+f=code.length->Ers m (opsF R s code f i acc)
 | 0,_,_,_=>ers_ok _
 | f+1,i,acc,hi=>by
  rw[opsF]
  have hx:=h _ (getD_in (ins0 0) (show i<code.length by omega))
  refine ers_bd ?_ fun _=>ers_ops h f (i+1) _ (by omega)
  unfold insV9
  split
  ·exact ers_no hx
  ·split
   ·exact ers_no hx
   ·exact ers_op9 hx
theorem ers_cod {m:Int} (hm:0≤m) {p:Pol} {q:Prg} (h:AtQ m q):Ers m (codV p q):=by
 unfold codV
 have hA:∀{l:List Arr} {acc:List ByteArray} {cs:List Cel},(∀a∈l,0≤a.at_∧a.at_≤m)->Ers m (arrsF p l acc cs):=fun {l}=>by
  induction l with
  | nil=>intro acc cs _;exact ers_ok _
  | cons a l ih=>
   intro acc cs hl
   rw[arrsF]
   split
   ·exact ers_no (hl _ (.head _))
   ·exact ers_bd (ers_known (hl _ (.head _))) fun _=>ih fun b hb=>hl b (.tail _ hb)
 refine ers_bd (hA h.arr) fun ac=>ers_bd (ers_nms fun e he=>?_) fun fn=>?_
 ·obtain⟨f,hf,rfl⟩:=List.mem_map.1 he
  exact h.fn f hf
 split
 ·refine ers_bd ?_ fun ss=>ers_bd ?_ fun bs=>ers_ok _
  ·rw[scps_acc q.funcs 0]
   refine ers_acc fun j f hf=>?_
   unfold scpV
   refine ers_bd (ers_nms fun e he=>?_) fun vs=>ers_bd (ers_nms fun e he=>?_) fun bs=>ers_bd (ers_nms fun e he=>?_) fun _=>ers_ok _
   ·obtain⟨t,_,rfl⟩:=List.mem_map.1 he
    exact h.fn f hf
   ·obtain⟨b,hb,rfl⟩:=List.mem_map.1 he
    exact h.blk f hf b hb
   ·obtain⟨b,hb,he⟩:=List.mem_flatMap.1 he
    obtain⟨x,hx,he⟩:=List.mem_filterMap.1 he
    split at he
    ·cases he
    ·cases he
     exact h.ins f hf b hb x hx
  ·rw[bods_acc _ _ q.funcs 0]
   refine ers_acc fun j f hf=>?_
   unfold bodV
   refine ers_bd ?_ fun _=>ers_ok _
   rw[blks9_acc _ _ f.blocks 0]
   refine ers_acc fun k b hb=>?_
   unfold blk9V
   split
   ·exact ers_ops (h.ins f hf b hb) _ _ _ (by omega)
   ·exact ers_no (h.blk f hf b hb)
 ·exact ers_no ⟨Int.le_refl _,hm⟩
theorem ints_spec (a b:List Int) (ha:a.length*8≤140737488355328):Pure PG 59 [.d (dNums a), .d (dNums b)] (vb (decide (a=b))) []:=by
 refine Proc.mk (cfg 26) tysOK [] Tryz.func59 rfl (by kernel_rfl) rfl rfl rfl ?_
 intro C x
 refine x.cond rfl tR (fun h=>?_) (fun h=>?_)
 ·have h:(!decide ((a.length:Int)=(b.length:Int)))=true:=h
  have h:¬(a.length:Int)=b.length:=by simpa using h
  refine x.exit rfl tR ⟨.inr rfl,?_,tR,rfl⟩
  rw[decide_eq_false (show ¬a=b from fun e=>h (by rw[e]))];exact rfl
 have h:(!decide ((a.length:Int)=(b.length:Int)))=false:=h
 have hl:a.length=b.length:=by
  have:(a.length:Int)=b.length:=by simpa using h
  omega
 refine x.loop (α:={i:Nat // i≤a.length∧∀j,j<i->a.getD j 0=b.getD j 0}) (fun y=>⟨[(0, .d (dNums a)),(1, .d (dNums b)),(5,vi (y.1:Int))],[],0⟩) (fun y=>a.length-y.1) ⟨0,Nat.zero_le _,fun j hj=>by omega⟩ rfl tR ⟨⟨veq_d rfl,veq_d rfl,rfl,tR⟩,tR,rfl⟩ (fun y=>?_)
 obtain⟨i,hi,hs⟩:=y
 change Go C _ ⟨[(0, .d (dNums a)),(1, .d (dNums b)),(5,vi (i:Int))],[],0⟩ _
 refine x.cond rfl tR (fun h1=>?_) (fun h1=>?_)
 ·have h1:i<a.length:=by have:=of_decide_eq_true h1;omega
  refine x.quiet rfl tR mixedP (by kernel_rfl) ?_
  refine x.qdone rfl (by simp only[AllP];omega) ?_
  refine x.cond rfl tR (fun h2=>?_) (fun h2=>?_)
  ·have h2:(!decide (a.getD i 0=b.getD i 0))=true:=h2
   refine x.exit rfl tR ⟨.inr rfl,?_,tR,rfl⟩
   rw[decide_eq_false (show ¬a=b from fun e=>by rw[e] at h2;simp at h2)];exact rfl
  ·have h2:(!decide (a.getD i 0=b.getD i 0))=false:=h2
   have h2:a.getD i 0=b.getD i 0:=by
    rw[Bool.not_eq_false',decide_eq_true_eq] at h2;exact h2
   refine x.back rfl (by simp only[AllP,inI64];omega) ⟨⟨i+1,by omega,fun j hj=>?_⟩,by show a.length-(i+1)<a.length-i;omega,⟨veq_d rfl,veq_d rfl,(show VEq0 (vi ((i:Int)+1)) (vi ((i+1:Nat):Int)) by rw[Int.natCast_add];rfl),tR⟩,tR,rfl⟩
   by_cases e:j=i
   ·subst e;exact h2
   ·exact hs j (by omega)
 ·have h1:i=a.length:=by have:=of_decide_eq_false h1;omega
  subst h1
  refine x.exit rfl tR ⟨.inr rfl,?_,tR,rfl⟩
  rw[decide_eq_true (nums_ext hl fun j hj=>hs j (by omega))];exact rfl
structure OpAlk (p:Bool) (x y:Op9):Prop where
 kind:x.kind=y.kind
 op:x.op=y.op
 dst:x.dst=y.dst
 ref:x.ref=y.ref
 alt:x.alt=y.alt
 args:x.args=y.args
 frm:x.frm=y.frm
 num:x.num=y.num
 at_:p=true->x.at_=y.at_
structure OpsAlk (p:Bool) (l m:List Op9):Prop where
 len:l.length=m.length
 op:∀j,j<l.length->OpAlk p (l.getD j op0) (m.getD j op0)
structure BodAlk (p:Bool) (a b:Bod):Prop where
 pars:a.params=b.params
 vars:a.vars=b.vars
 len:a.blocks.length=b.blocks.length
 ops:∀k,k<a.blocks.length->OpsAlk p (a.blocks.getD k []) (b.blocks.getD k [])
structure FunsAlk (p:Bool) (a b:List Bod):Prop where
 len:a.length=b.length
 bod:∀i,i<a.length->BodAlk p (a.getD i bod0) (b.getD i bod0)
theorem OpAlk.self (p:Bool) (x:Op9):OpAlk p x x:=⟨rfl,rfl,rfl,rfl,rfl,rfl,rfl,rfl,fun _=>rfl⟩
theorem FunsAlk.self (p:Bool) (a:List Bod):FunsAlk p a a:=⟨rfl,fun i _=>⟨rfl,rfl,rfl,fun k _=>⟨rfl,fun j _=>OpAlk.self p _⟩⟩⟩
set_option maxHeartbeats 8000000 in
theorem same9_spec (A:List Cel) (F G:List Bod) (M:Int) (p:Bool) (hal:A.length*8≤140737488355328) (hfl:F.length*8≤140737488355328) (hz:∀b∈F,BodZ b) (hh:FunsAlk p F G):Pure PG 18 [codW ⟨A,F,M⟩,codW ⟨A,G,M⟩,vb p] (vb true) []:=by
 have hlen:=hh.len
 refine Proc.mk (cfg 206) tysOK [] Tryz.func18 rfl (by kernel_rfl) rfl rfl rfl ?_
 intro C x
 refine x.cond rfl tR (fun h=>?_) (fun h=>?_)
 ·have h:((!decide (M=M)||!decide ((A.length:Int)=(A.length:Int)))||!decide ((F.length:Int)=(G.length:Int)))=true:=h
  rw[hlen] at h
  simp at h
 clear h
 refine x.loop (α:={i:Nat // i≤A.length}) (fun y=>⟨[(2,vb p),(3, .ptr 0 0),(4, .ptr 1 0),(7,vi (y.1:Int))],[(0, .box [.d (dCels A), .d (dBods F),vi M]),(1, .box [.d (dCels A), .d (dBods G),vi M])],2⟩) (fun y=>A.length-y.1) ⟨0,Nat.zero_le _⟩ rfl tR ⟨⟨rfl,⟨rfl,rfl⟩,⟨rfl,rfl⟩,rfl,tR⟩,⟨⟨veq0_d rfl,veq0_d rfl,rfl,tR⟩,⟨veq0_d rfl,veq0_d rfl,rfl,tR⟩,tR⟩,rfl⟩ (fun y=>?_)
 obtain⟨i,hi⟩:=y
 change Go C _ ⟨[(2,vb p),(3, .ptr 0 0),(4, .ptr 1 0),(7,vi (i:Int))],[(0, .box [.d (dCels A), .d (dBods F),vi M]),(1, .box [.d (dCels A), .d (dBods G),vi M])],2⟩ _
 refine x.cond rfl tR (fun h1=>?_) (fun h1=>?_)
 ·have h1:i<A.length:=by have:=of_decide_eq_true h1;omega
  refine x.quiet rfl tR mixedP (by kernel_rfl) ?_
  refine x.qdone rfl (by simp only[AllP];omega) ?_
  refine x.cond rfl tR (fun h2=>?_) (fun h2=>?_)
  ·have h2:(!(decide ((A.getD i cel0).1=(A.getD i cel0).1)&&(decide ((A.getD i cel0).2=(A.getD i cel0).2)&&true)))=true:=h2
   simp at h2
  ·exact x.back rfl (by simp only[AllP,inI64];omega) ⟨⟨i+1,by omega⟩,by show A.length-(i+1)<A.length-i;omega,⟨rfl,⟨rfl,rfl⟩,⟨rfl,rfl⟩,(show VEq0 (vi ((i:Int)+1)) (vi ((i+1:Nat):Int)) by rw[Int.natCast_add];rfl),tR⟩,⟨⟨veq0_d rfl,veq0_d rfl,rfl,tR⟩,⟨veq0_d rfl,veq0_d rfl,rfl,tR⟩,tR⟩,rfl⟩
 clear h1
 refine x.loop (α:={i:Nat // i≤F.length}) (fun y=>⟨[(2,vb p),(3, .ptr 0 0),(4, .ptr 1 0),(8,vi (y.1:Int))],[(0, .box [.d (dCels A), .d (dBods F),vi M]),(1, .box [.d (dCels A), .d (dBods G),vi M])],2⟩) (fun y=>F.length-y.1) ⟨0,Nat.zero_le _⟩ rfl tR ⟨⟨rfl,⟨rfl,rfl⟩,⟨rfl,rfl⟩,rfl,tR⟩,⟨⟨veq0_d rfl,veq0_d rfl,rfl,tR⟩,⟨veq0_d rfl,veq0_d rfl,rfl,tR⟩,tR⟩,rfl⟩ (fun y=>?_)
 obtain⟨i,hi⟩:=y
 change Go C _ ⟨[(2,vb p),(3, .ptr 0 0),(4, .ptr 1 0),(8,vi (i:Int))],[(0, .box [.d (dCels A), .d (dBods F),vi M]),(1, .box [.d (dCels A), .d (dBods G),vi M])],2⟩ _
 refine x.cond rfl tR (fun h1=>?_) (fun h1=>?_)
 rotate_left
 ·exact x.exit rfl tR ⟨.inr rfl,rfl,tR,rfl⟩
 have h1:i<F.length:=by have:=of_decide_eq_true h1;omega
 refine x.every2 [] [0,1,2,3,4,5,6,7,8,9] (.fork 10 (.fork 11 (.fork 12 (.fork 13 .leaf .no) .no) .no) (.fork 11 (.fork 10 (.fork 12 (.fork 13 .leaf .no) .no) .no) .no))
   ⟨[(2,vb p),(3, .ptr 0 0),(4, .ptr 1 0),(8,vi (i:Int)),(9, .ptr 2 0),(10, .ptr 3 0)],[(2, .box [vi (F.getD ((i:Int).toNat) bod0).params,vi (F.getD ((i:Int).toNat) bod0).vars, .d (dBks (F.getD ((i:Int).toNat) bod0).blocks)]),(3, .box [vi (G.getD ((i:Int).toNat) bod0).params,vi (G.getD ((i:Int).toNat) bod0).vars, .d (dBks (G.getD ((i:Int).toNat) bod0).blocks)])],4⟩
   rfl tR mixedP (by kernel_rfl) Ret.noPanic rfl (by simp only[AllP];omega) (fun C2 x2=>?_) ?_
 ·refine⟨x2.back rfl tR ⟨x2.back rfl tR ⟨x2.back rfl tR ⟨x2.back rfl tR (.inl ?_),tR⟩,tR⟩,tR⟩,x2.back rfl tR ⟨x2.back rfl tR ⟨x2.back rfl tR ⟨x2.back rfl tR (.inr ⟨[0,1,3,2],rfl,?_⟩),tR⟩,tR⟩,tR⟩,tR⟩
  ·exact⟨⟨rfl,⟨rfl,rfl⟩,⟨rfl,rfl⟩,rfl,⟨rfl,rfl⟩,⟨rfl,rfl⟩,tR⟩,⟨⟨rfl,rfl,veq0_d rfl,tR⟩,⟨rfl,rfl,veq0_d rfl,tR⟩,tR⟩,rfl⟩
  ·exact⟨⟨rfl,⟨rfl,rfl⟩,⟨rfl,rfl⟩,rfl,⟨rfl,rfl⟩,⟨rfl,rfl⟩,tR⟩,⟨⟨rfl,rfl,veq0_d rfl,tR⟩,⟨rfl,rfl,veq0_d rfl,tR⟩,tR⟩,rfl⟩
 rw[Int.toNat_natCast]
 have hX:=hz _ (getD_in bod0 h1)
 have hY:=hh.bod i h1
 generalize F.getD i bod0=X at hX hY ⊢
 generalize G.getD i bod0=Y at hY ⊢
 have hl2:=hY.len
 have hXl:=hX.l
 refine x.cond rfl tR (fun h2=>?_) (fun h2=>?_)
 ·have h2:((!decide (X.params=Y.params)||!decide (X.vars=Y.vars))||!decide ((X.blocks.length:Int)=(Y.blocks.length:Int)))=true:=h2
  rw[hY.pars,hY.vars,hl2] at h2
  simp at h2
 clear h2
 refine x.loop (α:={k:Nat // k≤X.blocks.length}) (fun y=>⟨[(2,vb p),(3, .ptr 0 0),(4, .ptr 1 0),(8,vi (i:Int)),(9, .ptr 2 0),(10, .ptr 3 0),(11,vi (y.1:Int))],[(0, .box [.d (dCels A), .d (dBods F),vi M]),(1, .box [.d (dCels A), .d (dBods G),vi M]),(2, .box [vi X.params,vi X.vars, .d (dBks X.blocks)]),(3, .box [vi Y.params,vi Y.vars, .d (dBks Y.blocks)])],4⟩) (fun y=>X.blocks.length-y.1) ⟨0,Nat.zero_le _⟩ rfl tR ⟨⟨rfl,⟨rfl,rfl⟩,⟨rfl,rfl⟩,rfl,⟨rfl,rfl⟩,⟨rfl,rfl⟩,rfl,tR⟩,⟨⟨veq0_d rfl,veq0_d rfl,rfl,tR⟩,⟨veq0_d rfl,veq0_d rfl,rfl,tR⟩,⟨rfl,rfl,veq0_d rfl,tR⟩,⟨rfl,rfl,veq0_d rfl,tR⟩,tR⟩,rfl⟩ (fun y=>?_)
 obtain⟨k,hk⟩:=y
 change Go C _ ⟨[(2,vb p),(3, .ptr 0 0),(4, .ptr 1 0),(8,vi (i:Int)),(9, .ptr 2 0),(10, .ptr 3 0),(11,vi (k:Int))],[(0, .box [.d (dCels A), .d (dBods F),vi M]),(1, .box [.d (dCels A), .d (dBods G),vi M]),(2, .box [vi X.params,vi X.vars, .d (dBks X.blocks)]),(3, .box [vi Y.params,vi Y.vars, .d (dBks Y.blocks)])],4⟩ _
 refine x.cond rfl tR (fun h2=>?_) (fun h2=>?_)
 rotate_left
 ·exact x.back rfl (by simp only[AllP,inI64];omega) ⟨⟨i+1,by omega⟩,by show F.length-(i+1)<F.length-i;omega,⟨rfl,⟨rfl,rfl⟩,⟨rfl,rfl⟩,(show VEq0 (vi ((i:Int)+1)) (vi ((i+1:Nat):Int)) by rw[Int.natCast_add];rfl),tR⟩,⟨⟨veq0_d rfl,veq0_d rfl,rfl,tR⟩,⟨veq0_d rfl,veq0_d rfl,rfl,tR⟩,tR⟩,rfl⟩
 have h2:k<X.blocks.length:=by have:=of_decide_eq_true h2;omega
 obtain⟨hLl,hLz⟩:=hX.x _ (getD_in [] h2)
 have hO:=hY.ops k h2
 have hl3:=hO.len
 refine x.quiet rfl tR mixedP (by kernel_rfl) ?_
 refine x.qdone rfl (by simp only[AllP,Int.toNat_natCast];omega) ?_
 refine x.cond rfl tR (fun h3=>?_) (fun h3=>?_)
 ·have h3:(!decide (((X.blocks.getD k []).length:Int)=((Y.blocks.getD k []).length:Int)))=true:=h3
  rw[hl3] at h3
  simp at h3
 clear h3
 refine x.loop (α:={m:Nat // m≤(X.blocks.getD k []).length}) (fun y=>⟨[(2,vb p),(3, .ptr 0 0),(4, .ptr 1 0),(8,vi (i:Int)),(9, .ptr 2 0),(10, .ptr 3 0),(11,vi (k:Int)),(12,vi (y.1:Int))],[(0, .box [.d (dCels A), .d (dBods F),vi M]),(1, .box [.d (dCels A), .d (dBods G),vi M]),(2, .box [vi X.params,vi X.vars, .d (dBks X.blocks)]),(3, .box [vi Y.params,vi Y.vars, .d (dBks Y.blocks)])],4⟩) (fun y=>(X.blocks.getD k []).length-y.1) ⟨0,Nat.zero_le _⟩ rfl tR ⟨⟨rfl,⟨rfl,rfl⟩,⟨rfl,rfl⟩,rfl,⟨rfl,rfl⟩,⟨rfl,rfl⟩,rfl,rfl,tR⟩,⟨⟨veq0_d rfl,veq0_d rfl,rfl,tR⟩,⟨veq0_d rfl,veq0_d rfl,rfl,tR⟩,⟨rfl,rfl,veq0_d rfl,tR⟩,⟨rfl,rfl,veq0_d rfl,tR⟩,tR⟩,rfl⟩ (fun y=>?_)
 obtain⟨m,hm⟩:=y
 change Go C _ ⟨[(2,vb p),(3, .ptr 0 0),(4, .ptr 1 0),(8,vi (i:Int)),(9, .ptr 2 0),(10, .ptr 3 0),(11,vi (k:Int)),(12,vi (m:Int))],[(0, .box [.d (dCels A), .d (dBods F),vi M]),(1, .box [.d (dCels A), .d (dBods G),vi M]),(2, .box [vi X.params,vi X.vars, .d (dBks X.blocks)]),(3, .box [vi Y.params,vi Y.vars, .d (dBks Y.blocks)])],4⟩ _
 refine x.cond rfl (by simp only[AllP,Int.toNat_natCast];omega) (fun h3=>?_) (fun h3=>?_)
 rotate_left
 ·exact x.back rfl (by simp only[AllP,inI64];omega) ⟨⟨k+1,by omega⟩,by show X.blocks.length-(k+1)<X.blocks.length-k;omega,⟨rfl,⟨rfl,rfl⟩,⟨rfl,rfl⟩,rfl,⟨rfl,rfl⟩,⟨rfl,rfl⟩,(show VEq0 (vi ((k:Int)+1)) (vi ((k+1:Nat):Int)) by rw[Int.natCast_add];rfl),tR⟩,⟨⟨veq0_d rfl,veq0_d rfl,rfl,tR⟩,⟨veq0_d rfl,veq0_d rfl,rfl,tR⟩,⟨rfl,rfl,veq0_d rfl,tR⟩,⟨rfl,rfl,veq0_d rfl,tR⟩,tR⟩,rfl⟩
 have h3:(m:Int)<((X.blocks.getD k []).length:Int):=of_decide_eq_true h3
 have h3:m<(X.blocks.getD k []).length:=by omega
 refine x.every2 [] [0,1,2,3,4,5,6,7,8,9,10,11,12,13,14,15] (.fork 16 (.fork 17 (.fork 18 (.fork 19 .leaf .no) .no) .no) (.fork 17 (.fork 16 (.fork 18 (.fork 19 .leaf .no) .no) .no) .no))
   ⟨[(2,vb p),(3, .ptr 0 0),(4, .ptr 1 0),(8,vi (i:Int)),(9, .ptr 2 0),(10, .ptr 3 0),(11,vi (k:Int)),(12,vi (m:Int)),(13, .ptr 4 0),(14, .ptr 5 0)],[(4, .box [.d (.int .u8 ((X.blocks.getD ((k:Int).toNat) []).getD ((m:Int).toNat) op0).kind), .d (.int .u8 ((X.blocks.getD ((k:Int).toNat) []).getD ((m:Int).toNat) op0).op),vi ((X.blocks.getD ((k:Int).toNat) []).getD ((m:Int).toNat) op0).dst,vi ((X.blocks.getD ((k:Int).toNat) []).getD ((m:Int).toNat) op0).ref,vi ((X.blocks.getD ((k:Int).toNat) []).getD ((m:Int).toNat) op0).alt, .d (dNums ((X.blocks.getD ((k:Int).toNat) []).getD ((m:Int).toNat) op0).args), .d (dNums ((X.blocks.getD ((k:Int).toNat) []).getD ((m:Int).toNat) op0).frm),vi ((X.blocks.getD ((k:Int).toNat) []).getD ((m:Int).toNat) op0).num,vi ((X.blocks.getD ((k:Int).toNat) []).getD ((m:Int).toNat) op0).at_]),(5, .box [.d (.int .u8 ((Y.blocks.getD ((k:Int).toNat) []).getD ((m:Int).toNat) op0).kind), .d (.int .u8 ((Y.blocks.getD ((k:Int).toNat) []).getD ((m:Int).toNat) op0).op),vi ((Y.blocks.getD ((k:Int).toNat) []).getD ((m:Int).toNat) op0).dst,vi ((Y.blocks.getD ((k:Int).toNat) []).getD ((m:Int).toNat) op0).ref,vi ((Y.blocks.getD ((k:Int).toNat) []).getD ((m:Int).toNat) op0).alt, .d (dNums ((Y.blocks.getD ((k:Int).toNat) []).getD ((m:Int).toNat) op0).args), .d (dNums ((Y.blocks.getD ((k:Int).toNat) []).getD ((m:Int).toNat) op0).frm),vi ((Y.blocks.getD ((k:Int).toNat) []).getD ((m:Int).toNat) op0).num,vi ((Y.blocks.getD ((k:Int).toNat) []).getD ((m:Int).toNat) op0).at_])],6⟩
   rfl tR mixedP (by kernel_rfl) Ret.noPanic rfl (by simp only[AllP,Int.toNat_natCast];omega) (fun C2 x2=>?_) ?_
 ·refine⟨x2.back rfl tR ⟨x2.back rfl tR ⟨x2.back rfl tR ⟨x2.back rfl tR (.inl ?_),tR⟩,tR⟩,tR⟩,x2.back rfl tR ⟨x2.back rfl tR ⟨x2.back rfl tR ⟨x2.back rfl tR (.inr ⟨[0,1,2,3,5,4],rfl,?_⟩),tR⟩,tR⟩,tR⟩,tR⟩
  ·exact⟨⟨rfl,⟨rfl,rfl⟩,⟨rfl,rfl⟩,rfl,⟨rfl,rfl⟩,⟨rfl,rfl⟩,rfl,rfl,⟨rfl,rfl⟩,⟨rfl,rfl⟩,tR⟩,⟨⟨rfl,rfl,rfl,rfl,rfl,veq0_d rfl,veq0_d rfl,rfl,rfl,tR⟩,⟨rfl,rfl,rfl,rfl,rfl,veq0_d rfl,veq0_d rfl,rfl,rfl,tR⟩,tR⟩,rfl⟩
  ·exact⟨⟨rfl,⟨rfl,rfl⟩,⟨rfl,rfl⟩,rfl,⟨rfl,rfl⟩,⟨rfl,rfl⟩,rfl,rfl,⟨rfl,rfl⟩,⟨rfl,rfl⟩,tR⟩,⟨⟨rfl,rfl,rfl,rfl,rfl,veq0_d rfl,veq0_d rfl,rfl,rfl,tR⟩,⟨rfl,rfl,rfl,rfl,rfl,veq0_d rfl,veq0_d rfl,rfl,rfl,tR⟩,tR⟩,rfl⟩
 rw[Int.toNat_natCast,Int.toNat_natCast]
 have hU:=hLz _ (getD_in op0 h3)
 have hW:=hO.op m h3
 generalize (X.blocks.getD k []).getD m op0=U at hU hW ⊢
 generalize (Y.blocks.getD k []).getD m op0=W at hW ⊢
 refine x.pureG rfl tR rfl (fun _=>ints_spec U.args W.args hU.a) rfl ⟨veq_d rfl,veq_d rfl,tR⟩ ?_
 refine x.pureG rfl tR rfl (fun _=>ints_spec U.frm W.frm hU.f) rfl ⟨veq_d rfl,veq_d rfl,tR⟩ ?_
 refine x.cond rfl tR (fun h4=>?_) (fun h4=>?_)
 ·exfalso
  have h4:((((((((!decide (U.kind=W.kind)||!decide (U.op=W.op))||!decide (U.dst=W.dst))||!decide (U.ref=W.ref))||!decide (U.alt=W.alt))||!decide (U.num=W.num))||(p&&!decide (U.at_=W.at_)))||!decide (U.args=W.args))||!decide (U.frm=W.frm))=true:=h4
  have ha:=hW.at_
  rw[hW.kind,hW.op,hW.dst,hW.ref,hW.alt,hW.num,hW.args,hW.frm] at h4
  cases p with
  | false=>simp at h4
  | true=>rw[ha rfl] at h4;simp at h4
 exact x.back rfl (by simp only[AllP,inI64];omega) ⟨⟨m+1,by omega⟩,by show (X.blocks.getD k []).length-(m+1)<(X.blocks.getD k []).length-m;omega,⟨rfl,⟨rfl,rfl⟩,⟨rfl,rfl⟩,rfl,⟨rfl,rfl⟩,⟨rfl,rfl⟩,rfl,(show VEq0 (vi ((m:Int)+1)) (vi ((m+1:Nat):Int)) by rw[Int.natCast_add];rfl),tR⟩,⟨⟨veq0_d rfl,veq0_d rfl,rfl,tR⟩,⟨veq0_d rfl,veq0_d rfl,rfl,tR⟩,⟨rfl,rfl,veq0_d rfl,tR⟩,⟨rfl,rfl,veq0_d rfl,tR⟩,tR⟩,rfl⟩
def NumsC (c:Cod):Prop:=∀b∈c.funcs,∀l∈b.blocks,∀x∈l,inI64 x.num
theorem opc_z {p:Pol} {c:Cod} (hc:RCod p c) {b:Bod} (hb:b∈c.funcs) {l:List Op9} (hl:l∈b.blocks) {x:Op9} (hx:x∈l):OpSz x:=by
 have hB:=hc.bod b hb
 have hv:=vars_lt hc hb
 have hbl:=hB.len
 have hP:=(right_iff p).1 hc.pol
 obtain⟨n,d,r,a,h⟩:=op_in hB hl hx
 have hD:=hasD_eq h
 have hal:x.args.length≤5000000:=by
  have:x.args.length≤64:=by
   rcases shp_kind h.sh with⟨hk,_⟩ | ⟨h3,hs⟩
   ·have:=h.phi hk;omega
   ·have hr:=raised_right hc hb hl hx
    rcases right_cases hr with⟨g,_⟩ | ⟨_,_,_,_,_,_,hi,_⟩
    ·exact absurd g h3
    ·have g:=hi.alen.2
     have e:(raisedV p c.main x).args.length=x.args.length:=List.length_map _
     omega
  omega
 have hfl:x.frm.length≤64:=by
  rcases shp_kind h.sh with⟨hk,_⟩ | ⟨h3,hs⟩
  ·exact (h.phi hk).2.2
  ·rw[(h.nphi h3).1];exact Nat.zero_le _
 have hcf:=hc.fl
 have hca:=hc.al
 refine⟨by omega,by omega,fun k hk=>?_,fun k hk=>?_,?_,?_,?_⟩
 ·have:=h.args k hk;unfold inI64;omega
 ·have:=h.frm k hk;unfold inI64;omega
 ·cases d with
  | true=>have:=dst_in hB hl hx hD;unfold inI64;omega
  | false=>rw[h.d0 rfl];unfold inI64;omega
 ·cases r with
  | false=>rw[h.r0 rfl];unfold inI64;omega
  | true=>
   have hm:=h.r1 rfl
   have hpl:p.lev.length≤1000000:=by
    have:=hP.len
    have ho:orderM p.up=true:=by have:=hP.up;unfold rightM at this;rw[Bool.and_eq_true] at this;exact this.1
    have:=(order_len ho).2
    omega
   have i1:=hP.il
   have i2:=hP.ol
   unfold mostR at hm
   unfold inI64
   repeat' split at hm
   all_goals omega
 ·cases a with
  | false=>rw[h.a0 rfl];unfold inI64;omega
  | true=>have:=h.a1 rfl;unfold inI64;omega
theorem len_le {p:Pol} {c:Cod} (hc:RCod p c) {b:Bod} (hb:b∈c.funcs) {l:List Op9} (hl:l∈b.blocks):l.length≤4096:=by
 have h1:=sumg_mem (g:=fun l:List Op9=>l.length) hl
 have h2:=sumg_mem (g:=fun b:Bod=>(b.blocks.map fun l=>l.length).sum) hb
 have:=hc.all
 omega
theorem cod_sz {p:Pol} {c:Cod} (hc:RCod p c):CodSz c:=by
 refine⟨by have:=hc.al;omega,by have:=hc.fl;omega,fun b hb=>by have:=(hc.bod b hb).len;omega,fun b hb l hl=>⟨by have:=len_le hc hb hl;omega,fun x hx=>opc_z hc hb hl hx⟩⟩
theorem cod_rz {p:Pol} {c:Cod} (hc:RCod p c):RsZ c:=by
 refine⟨by have:=hc.al;omega,by have:=hc.fl;omega,fun b hb=>⟨by have:=(hc.bod b hb).len;omega,fun l hl=>⟨by have:=len_le hc hb hl;omega,fun x hx=>?_⟩⟩⟩
 have:=opc_z hc hb hl hx
 exact⟨by have:=this.a;omega,by have:=this.f;omega⟩
theorem raise_fit {p:Pol} {c:Cod} (hc:RCod p c) (hn:NumsC c):FitP (raiseQ p c):=by
 refine right_fit (rightG_iff.2 (prg_raised hc)) fun f hf b hb x hx=>?_
 obtain⟨i,hi,rfl⟩:=rng_mem.1 hf
 obtain⟨k,hk,rfl⟩:=rng_mem.1 hb
 obtain⟨y,hy,rfl⟩:=List.mem_map.1 hx
 exact hn _ (getD_in bod0 hi) _ (getD_in [] hk) y hy
theorem res_raised {p:Pol} {c:Cod} (hc:RCod p c):resV p (raiseQ p c)=(c,0,0):=by
 unfold resV
 rw[if_pos (by rw[hc.pol,rightG_iff.2 (prg_raised hc)];rfl),cod_iff.2 (cod_raised hc)];rfl
theorem sameL_self {α:Type} {P:α->α->Bool} {d:α} (h:∀a,P a a=true) (l:List α):sameL P d l l=true:=by
 unfold sameL
 rw[decide_eq_true rfl,Bool.true_and,allF_iff]
 exact fun i _ _=>h _
theorem sameBods_self (l:List Bod):sameBods l l=true:=by
 refine sameL_self (fun b=>?_) l
 unfold sameBod
 rw[decide_eq_true rfl,decide_eq_true rfl,Bool.true_and,Bool.true_and]
 refine sameL_self (fun l=>?_) b.blocks
 refine sameL_self (fun x=>?_) l
 unfold sameOp
 simp
theorem raise_is {p:Pol} {c:Cod} (hc:RCod p c):raiseV p c=some (raiseQ p c):=by
 have e1:((resV p (raiseQ p c)).2.2)=0:=by rw[res_raised hc]
 have e2:((resV p (raiseQ p c)).1)=c:=by rw[res_raised hc]
 unfold raiseV
 rw[if_pos (by rw[hc.pol,decide_eq_true hc.fl,decide_eq_true hc.al];rfl),raise_some hc]
 simp only[e1,e2]
 rw[if_pos (by rw[sameBods_self];simp)]
theorem Raise_ok {p:Pol} {c:Cod} (hc:RCod p c) (hn:NumsC c):Pure PG 8 [vPol p,codW c] (raiseE (some (raiseQ p c))) []:=by
 have hP:=(right_iff p).1 hc.pol
 have h:=Raise_spec p c hP.z ⟨by have:=hP.il;omega,by have:=hP.ol;omega⟩ (cod_sz hc) (fun q hq=>by rw[raise_some hc] at hq;cases hq;exact raise_fit hc hn) (fun q hq=>by rw[raise_some hc] at hq;cases hq;rw[res_raised hc];exact cod_rz hc)
 rwa [raise_is hc] at h
theorem Right9_ok {p:Pol} {c:Cod} (hc:RCod p c) (hn:NumsC c):Pure PG 13 [vPol p,codW c] (vb true) []:=by
 have hP:=(right_iff p).1 hc.pol
 have h:=Right9_spec p c hP.z ⟨by have:=hP.il;omega,by have:=hP.ol;omega⟩ (cod_sz hc) (fun q hq=>by rw[raise_some hc] at hq;cases hq;exact raise_fit hc hn) (fun q hq=>by rw[raise_some hc] at hq;cases hq;rw[res_raised hc];exact cod_rz hc)
 rwa [raise_is hc] at h
theorem same9_self {p:Pol} {c:Cod} (hc:RCod p c) (t:Bool):Pure PG 18 [codW c,codW c,vb t] (vb true) []:=by
 have h:=cod_rz hc
 exact same9_spec c.arrays c.funcs c.funcs c.main t h.a h.f h.b (FunsAlk.self t _)
theorem cod_nums {p:Pol} {q:Prg} {c:Cod} (hi:CodIs p q c) (hn:∀f,f∈q.funcs->∀b,b∈f.blocks->∀x,x∈b.code->inI64 x.num):NumsC c:=by
 intro b hb l hl x hx
 obtain⟨i,hi1,rfl⟩:=List.getElem_of_mem hb
 have hi2:i<q.funcs.length:=by rw[←hi.len];exact hi1
 have hB:=hi.fn i hi2
 rw[show c.funcs.getD i bod0=c.funcs[i] by rw[List.getD_eq_getElem?_getD,List.getElem?_eq_getElem hi1];rfl] at hB
 obtain⟨k,hk1,rfl⟩:=List.getElem_of_mem hl
 have hk2:k<(q.funcs.getD i fun0).blocks.length:=by rw[←hB.len];exact hk1
 have hL:=hB.blk k hk2
 rw[show c.funcs[i].blocks.getD k []=c.funcs[i].blocks[k] by rw[List.getD_eq_getElem?_getD,List.getElem?_eq_getElem hk1];rfl] at hL
 obtain⟨j,hj1,rfl⟩:=List.getElem_of_mem hx
 have hj2:j<((q.funcs.getD i fun0).blocks.getD k blk0).code.length:=by rw[←hL.len];exact hj1
 obtain⟨o,ho⟩:=op9_is (ins9_iff.1 (hL.ins j hj2)).op
 have hy:=ho.y
 rw[show c.funcs[i].blocks[k].getD j op0=c.funcs[i].blocks[k][j] by rw[List.getD_eq_getElem?_getD,List.getElem?_eq_getElem hj1];rfl] at hy
 rw[hy]
 exact hn _ (getD_in _ hi2) _ (getD_in _ hk2) _ (getD_in _ hj2)
theorem res_ok {m:Int} (hm:0≤m) {p:Pol} {q:Prg} (hat:AtQ m q) (hp:PolR p) (hq:rightG q=true) (hn:∀f,f∈q.funcs->∀b,b∈f.blocks->∀x,x∈b.code->inI64 x.num) (h:(resV p q).2.2=0):RCod p (resV p q).1∧NumsC (resV p q).1:=by
 have hr:=(right_iff p).2 hp
 unfold resV at h ⊢
 rw[if_pos (by rw[hr,hq];rfl)] at h ⊢
 rcases hV:codV p q with⟨a,e⟩ | c
 ·exfalso
  rw[hV] at h
  exact (ers_cod hm hat _ hV).2 h
 ·have hi:=cod_iff.1 hV
  exact⟨cod_right hr (rightG_iff.1 hq) hi,cod_nums hi hn⟩
def ex9:ByteArray:=⟨#[102,110,32,109,97,105,110,40,41,32,123,32,97,58,32,120,32,61,32,99,111,110,115,116,32,55,32,114,101,116,117,114,110,32,120,32,125]⟩
def bad9:ByteArray:=⟨#[102,110,32,109,97,105,110,40,41,32,123,32,97,58,32,114,101,116,117,114,110,32,120,32,125]⟩
theorem ex9_e:(parseV ex9).2.2=0:=by decide +kernel
theorem bad9_e:(parseV bad9).2.2=0:=by decide +kernel
theorem ex9_r:(resV (parseP exP).1 (parseV ex9).1).2.2=0∧(resV (parseP exP).1 (parseV ex9).1).1.funcs.length=1∧((resV (parseP exP).1 (parseV ex9).1).1.funcs.getD 0 bod0).vars=1∧((resV (parseP exP).1 (parseV ex9).1).1.funcs.getD 0 bod0).blocks.length=1∧(((resV (parseP exP).1 (parseV ex9).1).1.funcs.getD 0 bod0).blocks.getD 0 []).length=2∧((((resV (parseP exP).1 (parseV ex9).1).1.funcs.getD 0 bod0).blocks.getD 0 []).getD 0 op0).dst=0∧((((resV (parseP exP).1 (parseV ex9).1).1.funcs.getD 0 bod0).blocks.getD 0 []).getD 1 op0).dst=-1∧((((resV (parseP exP).1 (parseV ex9).1).1.funcs.getD 0 bod0).blocks.getD 0 []).getD 1 op0).args.length=1:=by decide +kernel
theorem bad9_r:(resV (parseP exP).1 (parseV bad9).1).2.1=15∧(resV (parseP exP).1 (parseV bad9).1).2.2=10:=by decide +kernel
set_option maxHeartbeats 4000000 in
theorem awake9_spec:Pure PG 14 [] (vb true) []:=by
 refine Proc.mk (cfg 128) tysOK [] Tryz.func14 rfl (by kernel_rfl) rfl rfl rfl ?_
 intro C x
 have s1:exP.size≤9223372036854775807:=by show (72:Nat)≤_;decide
 have s2:ex9.size≤4611686018427387904:=by show (37:Nat)≤_;decide
 have s3:bad9.size≤4611686018427387904:=by show (25:Nat)≤_;decide
 have hP:=parse_right exP_e.1
 have eP:=exP_e.1
 have hG:=parse_rightG ex9_e
 have hB:=parse_rightG bad9_e
 have hc:=res_ok (Int.natCast_nonneg _) (parse_at ex9_e) hP hG.1 hG.2 ex9_r.1
 have hr:=ex9_r
 have hb:=bad9_r
 have r1:=resolve_spec (parseP exP).1 (parseV ex9).1 hP.z (right_fit hG.1 hG.2)
 have r2:=resolve_spec (parseP exP).1 (parseV bad9).1 hP.z (right_fit hB.1 hB.2)
 have e1:=ex9_e
 have e2:=bad9_e
 have px:=parse6_spec exP s1
 have pa:=parse7_spec ex9 s2
 have pb:=parse7_spec bad9 s3
 clear hG hB s1 s2 s3
 obtain⟨c,hcc⟩:∃c,resV (parseP exP).1 (parseV ex9).1=c:=⟨_,rfl⟩
 obtain⟨d,hdd⟩:∃c,resV (parseP exP).1 (parseV bad9).1=c:=⟨_,rfl⟩
 rw[hcc] at hc hr r1
 rw[hdd] at hb r2
 clear hcc hdd
 obtain⟨P,hPP⟩:∃c,parseP exP=c:=⟨_,rfl⟩
 obtain⟨Q,hQQ⟩:∃c,parseV ex9=c:=⟨_,rfl⟩
 obtain⟨B,hBB⟩:∃c,parseV bad9=c:=⟨_,rfl⟩
 rw[hPP] at hP eP hc r1 r2 px
 rw[hQQ] at e1 pa r1
 rw[hBB] at e2 pb r2
 clear hPP hQQ hBB
 obtain⟨P,u1,u2⟩:=P
 obtain⟨Q,u3,u4⟩:=Q
 obtain⟨B,u5,u6⟩:=B
 obtain⟨c,u7,u8⟩:=c
 obtain⟨d,u9,u10⟩:=d
 simp only at hP eP hc r1 r2 px e1 pa e2 pb hr hb
 obtain⟨h0,h1,h2,h3,h4,h5,h6,h7⟩:=hr
 obtain⟨b1,b2⟩:=hb
 subst eP e1 e2 h0 b1 b2
 refine x.pure rfl tR rfl px ⟨rfl,tR⟩ ?_
 refine x.pure rfl tR rfl pa ⟨rfl,tR⟩ ?_
 refine x.pure rfl tR rfl r1 ⟨⟨veq0_d rfl,veq0_d rfl,veq0_d rfl,veq0_d rfl,rfl,tR⟩,⟨veq0_d rfl,veq0_d rfl,tR⟩,tR⟩ ?_
 refine x.pure rfl tR rfl pb ⟨rfl,tR⟩ ?_
 refine x.pure rfl tR rfl r2 ⟨⟨veq0_d rfl,veq0_d rfl,veq0_d rfl,veq0_d rfl,rfl,tR⟩,⟨veq0_d rfl,veq0_d rfl,tR⟩,tR⟩ ?_
 have n1:((c.funcs.length:Nat):Int)=1:=by rw[h1];rfl
 have n3:(((c.funcs.getD 0 bod0).blocks.length:Nat):Int)=1:=by rw[h3];rfl
 refine x.cond rfl (by simp only[AllP,Int.toNat_zero];omega) (fun h=>?_) (fun h=>?_)
 ·exfalso
  simp only[Int.toNat_zero,n1,h2,n3] at h
  revert h
  simp
 refine x.pureG rfl (by simp only[AllP,Int.toNat_zero];omega) rfl (fun _=>Right9_ok hc.1 hc.2) rfl ⟨⟨veq0_d rfl,veq0_d rfl,veq0_d rfl,veq0_d rfl,rfl,tR⟩,⟨veq0_d rfl,veq0_d rfl,rfl,tR⟩,tR⟩ ?_
 refine x.exit rfl ?_ ⟨.inr rfl,?_,tR,rfl⟩
 ·exact tR
 refine (show VEq0 (vb _) (vb true) from ?_)
 simp only[Int.toNat_zero,show Int.toNat 1=1 from rfl,h4,h5,h6,h7]
 exact rfl
theorem res_err {m:Int} (hm:0≤m) {p:Pol} {q:Prg} (hat:AtQ m q) (h:(resV p q).2.2≠0):(0≤(resV p q).2.1∧(resV p q).2.1≤m)∧(resV p q).1.funcs=[]:=by
 unfold resV at h ⊢
 split at h
 ·rename_i hr
  rw[if_pos hr]
  rcases hV:codV p q with⟨a,e⟩ | c
  ·exact⟨(ers_cod hm hat _ hV).1,rfl⟩
  ·rw[hV] at h
   exact absurd rfl h
 ·rename_i hr
  rw[if_neg hr]
  exact⟨⟨Int.le_refl _,hm⟩,rfl⟩
set_option maxHeartbeats 8000000 in
theorem texts9_spec (s t:ByteArray):Pure PG 4 [vs s,vs t] (vb true) []:=by
 refine Proc.mk (cfg 104) tysOK [] Tryz.func4 rfl (by kernel_rfl) rfl rfl rfl ?_
 intro C x
 refine x.cond rfl tR (fun h=>?_) (fun h=>?_)
 ·exact x.exit rfl tR ⟨.inr rfl,rfl,tR,rfl⟩
 have h:(decide (8000<(s.size:Int))||decide (8000<(t.size:Int)))=false:=h
 rw[Bool.or_eq_false_iff,decide_eq_false_iff_not,decide_eq_false_iff_not] at h
 obtain⟨hs,ht⟩:=h
 have hp0:=parse_right (s:=s)
 have hg0:=parse_rightG (s:=t)
 have ha0:=parse_at (s:=t)
 refine x.pure rfl tR rfl (parse6_spec s (by omega)) ⟨rfl,tR⟩ ?_
 refine x.pure rfl tR rfl (parse7_spec t (by omega)) ⟨rfl,tR⟩ ?_
 generalize parseP s=P at *
 generalize parseV t=Q at *
 obtain⟨P,u1,u2⟩:=P
 obtain⟨Q,u3,u4⟩:=Q
 refine x.cond rfl tR (fun h=>?_) (fun h=>?_)
 ·refine x.pure rfl tR rfl awake9_spec tR ?_
  exact x.exit rfl tR ⟨.inr rfl,rfl,tR,rfl⟩
 have h:(!decide (u2=0)||!decide (u4=0))=false:=h
 rw[Bool.or_eq_false_iff,Bool.not_eq_false',Bool.not_eq_false',decide_eq_true_eq,decide_eq_true_eq] at h
 obtain⟨rfl,rfl⟩:=h
 have hP:PolR P:=hp0 rfl
 obtain⟨hG,hN⟩:=hg0 rfl
 have hA:AtQ (t.size:Int) Q:=ha0 rfl
 clear hp0 hg0 ha0
 have hm:(0:Int)≤(t.size:Int):=Int.natCast_nonneg _
 have hok:=res_ok hm hA hP hG hN
 have hno:=res_err (p:=P) hm hA
 have r1:=resolve_spec P Q hP.z (right_fit hG hN)
 generalize resV P Q=R at *
 obtain⟨c,a,e⟩:=R
 simp only at hok hno
 refine x.pure rfl tR rfl r1 ⟨⟨veq0_d rfl,veq0_d rfl,veq0_d rfl,veq0_d rfl,rfl,tR⟩,⟨veq0_d rfl,veq0_d rfl,tR⟩,tR⟩ ?_
 refine x.cond rfl tR (fun h=>?_) (fun h=>?_)
 ·have h:(!decide (e=0))=true:=h
  rw[Bool.not_eq_true',decide_eq_false_iff_not] at h
  obtain⟨⟨g1,g2⟩,g3⟩:=hno h
  refine x.pureG rfl tR rfl (fun _=>awake9_spec) rfl tR ?_
  refine x.exit rfl tR ⟨.inr rfl,(show VEq0 (vb _) (vb true) from ?_),tR,rfl⟩
  show VEq0 (vb (((decide (0≤a)&&decide (a≤(t.size:Int)))&&decide ((c.funcs.length:Int)=0))&&true)) (vb true)
  rw[g3,decide_eq_true g1,decide_eq_true g2]
  exact rfl
 have h:(!decide (e=0))=false:=h
 rw[Bool.not_eq_false',decide_eq_true_eq] at h
 subst h
 obtain⟨hc,hn⟩:=hok rfl
 have r2:=resolve_spec P (raiseQ P c) hP.z (raise_fit hc hn)
 rw[res_raised hc] at r2
 refine x.pure rfl tR rfl (Raise_ok hc hn) ⟨⟨veq0_d rfl,veq0_d rfl,veq0_d rfl,veq0_d rfl,rfl,tR⟩,⟨veq0_d rfl,veq0_d rfl,rfl,tR⟩,tR⟩ ?_
 generalize raiseQ P c=q' at r2 ⊢
 refine x.pure rfl tR rfl r2 ⟨⟨veq0_d rfl,veq0_d rfl,veq0_d rfl,veq0_d rfl,rfl,tR⟩,⟨veq0_d rfl,veq0_d rfl,tR⟩,tR⟩ ?_
 refine x.pure rfl tR rfl (Right9_ok hc hn) ⟨⟨veq0_d rfl,veq0_d rfl,veq0_d rfl,veq0_d rfl,rfl,tR⟩,⟨veq0_d rfl,veq0_d rfl,rfl,tR⟩,tR⟩ ?_
 refine x.pureG rfl tR rfl (fun _=>same9_self hc true) rfl ⟨⟨veq0_d rfl,veq0_d rfl,rfl,tR⟩,⟨veq0_d rfl,veq0_d rfl,rfl,tR⟩,rfl,tR⟩ ?_
 refine x.pureG rfl tR rfl (fun _=>awake9_spec) rfl tR ?_
 exact x.exit rfl tR ⟨.inr rfl,rfl,tR,rfl⟩
end Go.Proofs.YtojhdmfkfkfcbaaGreatDoor
