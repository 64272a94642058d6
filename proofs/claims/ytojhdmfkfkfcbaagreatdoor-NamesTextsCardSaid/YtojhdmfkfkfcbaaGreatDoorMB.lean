import Derived.Test.YtojhdmfkfkfcbaaGreatDoorMA
import Derived.Test.YtojhdmfkfkfcbaaGreatDoorSxF
import Derived.Test.YtojhdmfkfkfcbaaGreatDoorSxG
namespace Go.Proofs.YtojhdmfkfkfcbaaGreatDoor
open Go.Sx
set_option linter.unusedVariables false
set_option linter.unusedSimpArgs false
set_option maxRecDepth 100000
structure Tok where
 k:Int
 f:Int
 t:Int
deriving DecidableEq
abbrev dTok (t:Tok):List D:=[.int .u8 t.k, .int .i64 t.f, .int .i64 t.t]
abbrev vTok (t:Tok):List V:=[.d (.int .u8 t.k),vi t.f,vi t.t]
abbrev tokV (t:Tok):V:=.agg (vTok t)
def tok0:Tok:=⟨0,0,0⟩
def nameT (b:ByteArray):Bool:=nameW b b.size 0 0
def kindOf (b:ByteArray):Int:=if wordB b then 2 else if nameT b then 1 else if (numV b).2 then 3 else 0
def pieceEnd (s:ByteArray) (p:Nat):Nat:=if bt s p=45∧digAt s (p+1)=true then rowV s (p+1) else rowV s p
def oneN (s:ByteArray) (a:Nat):Tok×Int×Int:=
 if skV s false a=s.size then (tok0,(s.size:Int),4)
 else if signB (bt s (skV s false a)) then (⟨4,skV s false a,skV s false a+1⟩,0,0)
 else if kindOf (s.extract (skV s false a) (pieceEnd s (skV s false a)))=0 then (tok0,(skV s false a:Int),6)
 else (⟨kindOf (s.extract (skV s false a) (pieceEnd s (skV s false a))),skV s false a,pieceEnd s (skV s false a)⟩,0,0)
def oneV (s:ByteArray) (a:Int):Tok×Int×Int:=if a<0∨(s.size:Int)<a then (tok0,0,1) else oneN s a.toNat
theorem oneN_none {s:ByteArray} {a p:Nat} (hp:skV s false a=p) (h:p=s.size):oneN s a=(tok0,(s.size:Int),4):=by
 unfold oneN;rw[hp,if_pos h]
theorem oneN_sign {s:ByteArray} {a p:Nat} (hp:skV s false a=p) (h:p≠s.size) (h2:signB (bt s p)=true):oneN s a=(⟨4,p,p+1⟩,0,0):=by
 unfold oneN;rw[hp,if_neg h,if_pos h2]
theorem oneN_bad {s:ByteArray} {a p:Nat} (hp:skV s false a=p) (h:p≠s.size) (h2:signB (bt s p)=false) (h3:kindOf (s.extract p (pieceEnd s p))=0):oneN s a=(tok0,(p:Int),6):=by
 unfold oneN;rw[hp,if_neg h,if_neg (by rw[h2];simp),if_pos h3]
theorem oneN_ok {s:ByteArray} {a p:Nat} (hp:skV s false a=p) (h:p≠s.size) (h2:signB (bt s p)=false) (h3:kindOf (s.extract p (pieceEnd s p))≠0):oneN s a=(⟨kindOf (s.extract p (pieceEnd s p)),p,pieceEnd s p⟩,0,0):=by
 unfold oneN;rw[hp,if_neg h,if_neg (by rw[h2];simp),if_neg h3]
theorem pieceEnd_le {s:ByteArray} {p:Nat} (hp:p<s.size):p≤pieceEnd s p∧pieceEnd s p≤s.size:=by
 unfold pieceEnd
 split
 ·have:=rowV_le s s.size (p+1) (by omega) (by omega);omega
 ·exact rowV_le s s.size p (by omega) (by omega)
theorem kind_word {b:ByteArray} (h:wordB b=true):kindOf b=2:=by unfold kindOf;rw[if_pos h]
theorem kind_name {b:ByteArray} (h:wordB b=false) (h2:nameT b=true):kindOf b=1:=by unfold kindOf;rw[if_neg (by rw[h];simp),if_pos h2]
theorem kind_num {b:ByteArray} (h:wordB b=false) (h2:nameT b=false) (h3:(numV b).2=true):kindOf b=3:=by unfold kindOf;rw[if_neg (by rw[h];simp),if_neg (by rw[h2];simp),if_pos h3]
theorem kind_none {b:ByteArray} (h:wordB b=false) (h2:nameT b=false) (h3:(numV b).2=false):kindOf b=0:=by unfold kindOf;rw[if_neg (by rw[h];simp),if_neg (by rw[h2];simp),if_neg (by rw[h3];simp)]
theorem sign_idx (n:Nat) (hn:n<256):decide (0≤Lib.indexByte [40,41,123,125,91,93,44,58,61] n.toUInt8)=signB n:=by
 have:∀n,n<256->decide (0≤Lib.indexByte [40,41,123,125,91,93,44,58,61] n.toUInt8)=signB n:=by decide +kernel
 exact this n hn
theorem ex_size (s:ByteArray) (p q:Nat):(s.extract p q).size≤s.size:=by
 rw[ByteArray.size_extract];omega
theorem one_spec (s:ByteArray) (a:Int) (hs:s.size≤4611686018427387904):Pure PG 88 [vs s,vi a] (.tup [tokV (oneV s a).1,vi (oneV s a).2.1,vi (oneV s a).2.2]) []:=by
 refine Proc.mk (cfg 104) tysOK [] Tryz.func88 rfl (by kernel_rfl) rfl rfl rfl ?_
 intro C x
 refine x.cond rfl tR (fun h=>?_) (fun h=>?_)
 ·have h:(decide (a<0)||decide ((s.size:Int)<a))=true:=h
  rw[Bool.or_eq_true,decide_eq_true_eq,decide_eq_true_eq] at h
  rw[oneV,if_pos h]
  refine x.exit rfl tR ?_
  exact⟨.inr rfl,⟨rfl,rfl,rfl,tR⟩,tR,rfl⟩
 have h:(decide (a<0)||decide ((s.size:Int)<a))=false:=h
 rw[Bool.or_eq_false_iff,decide_eq_false_iff_not,decide_eq_false_iff_not] at h
 rw[oneV,if_neg (by omega)]
 obtain⟨a,rfl⟩:∃n:Nat,a=n:=⟨a.toNat,by omega⟩
 rw[Int.toNat_natCast]
 refine x.pure rfl tR rfl (skip_spec s a (by omega) (by omega)) ⟨rfl,rfl,tR⟩ ?_
 obtain⟨hp1,hp2,hp3⟩:=skV_le s s.size false a (by omega) (by omega)
 obtain⟨p,hp⟩:∃p,skV s false a=p:=⟨_,rfl⟩
 rw[hp] at hp1 hp2 hp3 ⊢
 refine x.cond rfl tR (fun h2=>?_) (fun h2=>?_)
 ·have h2:p=s.size:=by have h2:(p:Int)=s.size:=of_decide_eq_true h2;omega
  rw[oneN_none hp h2]
  refine x.exit rfl tR ?_
  exact⟨.inr rfl,⟨rfl,by show (p:Int)=s.size;omega,rfl,tR⟩,tR,rfl⟩
 have h2:p≠s.size:=by have h2:¬(p:Int)=s.size:=of_decide_eq_false h2;omega
 have hpl:p<s.size:=by omega
 have ec:sb s ((p:Int)).toNat=(bt s p:Int):=sb_bt s p
 have hbl:=bt_lt s p
 refine x.pure rfl ?_ rfl (indexByte_spec ⟨#[40,41,123,125,91,93,44,58,61]⟩ (bt s p:Int)) ⟨rfl,?_,tR⟩ ?_
 ·simp only[AllP];omega
 ·exact ec
 rw[Int.toNat_natCast]
 refine x.cond rfl tR (fun h3=>?_) (fun h3=>?_)
 ·have h3:signB (bt s p)=true:=(sign_idx _ hbl).symm.trans h3
  rw[oneN_sign hp h2 h3]
  refine x.exit rfl ?_ ?_
  ·simp only[AllP,inI64];omega
  exact⟨.inr rfl,⟨rfl,rfl,rfl,tR⟩,tR,rfl⟩
 have h3:signB (bt s p)=false:=(sign_idx _ hbl).symm.trans h3
 refine x.pure rfl ?_ rfl (row_spec (s.extract p s.size) (by have:=ex_size s p s.size;omega)) ⟨rfl,tR⟩ ?_
 ·simp only[AllP];omega
 have er:=rowV_extract hp2 s.size 0 (by omega)
 rw[Nat.add_zero] at er
 obtain⟨e1,e2⟩:=pieceEnd_le hpl
 have hrl:=rowV_le s s.size p (by omega) hp2
 refine x.ite (α:=Unit) (fun _=>⟨[(0,vs s),(1,vi (p:Int)),(4, .ptr 0 0),(7,vi ((pieceEnd s p-p:Nat):Int))],[(0, .box (vTok tok0))],1⟩) rfl ?_ (fun h4=>?_) (fun h4=>?_) (fun _=>?_)
 ·simp only[AllP,inI64,Bool.and_eq_true,decide_eq_true_eq]
  exact⟨by omega,fun _=>by omega,fun _=>by omega,fun _=>by omega,fun _=>by omega,fun _=>by omega⟩
 ·have h4:(((decide (sb s ((p:Int)).toNat=45)&&decide ((p:Int)+1<(s.size:Int)))&&decide (48≤sb s ((p:Int)+1).toNat))&&decide (sb s ((p:Int)+1).toNat≤57))=true:=h4
  have ep1:((p:Int)+1).toNat=p+1:=by omega
  rw[ec,ep1,sb_bt] at h4
  simp only[Bool.and_eq_true,decide_eq_true_eq] at h4
  have e45:bt s p=45:=by omega
  have ed:digAt s (p+1)=true:=by
   unfold digAt
   simp only[Bool.and_eq_true,decide_eq_true_eq]
   omega
  have epe:pieceEnd s p=rowV s (p+1):=by unfold pieceEnd;rw[if_pos ⟨e45,ed⟩]
  refine x.pure rfl ?_ rfl (row_spec (s.extract (p+1) s.size) (by have:=ex_size s (p+1) s.size;omega)) ⟨?_,tR⟩ ?_
  ·simp only[AllP,inI64];omega
  ·show s.extract ((p:Int)+1).toNat s.size=s.extract (p+1) s.size
   rw[ep1]
  have er1:=rowV_extract (s:=s) (p:=p+1) (by omega) s.size 0 (by omega)
  rw[Nat.add_zero] at er1
  refine x.back rfl ?_ ⟨(),⟨rfl,rfl,⟨rfl,rfl⟩,?_,tR⟩,⟨⟨rfl,rfl,rfl,tR⟩,tR⟩,rfl⟩
  ·simp only[AllP,inI64];omega
  ·show 1+(rowV (s.extract (p+1) s.size) 0:Int)=((pieceEnd s p-p:Nat):Int)
   omega
 ·have h4:(((decide (sb s ((p:Int)).toNat=45)&&decide ((p:Int)+1<(s.size:Int)))&&decide (48≤sb s ((p:Int)+1).toNat))&&decide (sb s ((p:Int)+1).toNat≤57))=false:=h4
  have ep1:((p:Int)+1).toNat=p+1:=by omega
  have epe:pieceEnd s p=rowV s p:=by
   unfold pieceEnd
   rw[if_neg]
   rintro ⟨e45,ed⟩
   unfold digAt at ed
   simp only[Bool.and_eq_true,decide_eq_true_eq] at ed
   rw[ec,ep1,sb_bt] at h4
   rw[decide_eq_true (by omega),decide_eq_true (by omega),decide_eq_true (by omega),decide_eq_true (by omega)] at h4
   cases h4
  refine x.back rfl tR ⟨(),⟨rfl,rfl,⟨rfl,rfl⟩,?_,tR⟩,⟨⟨rfl,rfl,rfl,tR⟩,tR⟩,rfl⟩
  show (rowV (s.extract p s.size) 0:Int)=((pieceEnd s p-p:Nat):Int)
  omega
 obtain⟨q,hq⟩:∃q,pieceEnd s p=q:=⟨_,rfl⟩
 rw[hq] at e1 e2 ⊢
 have eqq:(p:Int)+((q-p:Nat):Int)=(q:Int):=by omega
 obtain⟨b,hb⟩:∃b,s.extract p q=b:=⟨_,rfl⟩
 have hbs:b.size≤s.size:=by rw[←hb];exact ex_size s p q
 refine x.pure rfl ?_ rfl (number_spec b) ⟨?_,tR⟩ ?_
 ·simp only[AllP,inI64,eqq];omega
 ·show s.extract ((p:Int)).toNat ((p:Int)+((q-p:Nat):Int)).toNat=b
  rw[eqq,Int.toNat_natCast,Int.toNat_natCast,hb]
 have ebv:s.extract ((p:Int)).toNat ((p:Int)+((q-p:Nat):Int)).toNat=b:=by rw[eqq,Int.toNat_natCast,Int.toNat_natCast,hb]
 refine x.le (s':=⟨[(1,vi (p:Int)),(4, .ptr 0 0),(8, .ptr 1 0),(9,vs b),(87, .tup [vi (numV b).1,vb (numV b).2])],[(0, .box (vTok tok0)),(1, .box (vTok ⟨0,p,q⟩))],2⟩) ?_ ?_
 ·exact⟨⟨rfl,⟨rfl,rfl⟩,⟨rfl,rfl⟩,ebv,⟨rfl,rfl,tR⟩,tR⟩,⟨⟨rfl,rfl,rfl,tR⟩,⟨rfl,rfl,eqq,tR⟩,tR⟩,rfl⟩
 refine x.pure rfl tR rfl (word_spec b) ⟨rfl,tR⟩ ?_
 have fin:∀k:Int,kindOf b=k->k≠0->oneN s a=(⟨k,p,q⟩,0,0):=fun k hk h0=>by
  rw[oneN_ok hp h2 h3 (by rw[hq,hb,hk];exact h0),hq,hb,hk]
 refine x.cond rfl tR (fun h5=>?_) (fun h5=>?_)
 ·rw[fin 2 (kind_word h5) (by decide)]
  refine x.exit rfl tR ?_
  exact⟨.inr rfl,⟨rfl,rfl,rfl,tR⟩,tR,rfl⟩
 refine x.pure rfl tR rfl (name_spec b (by omega)) ⟨rfl,tR⟩ ?_
 refine x.cond rfl tR (fun h6=>?_) (fun h6=>?_)
 ·rw[fin 1 (kind_name h5 h6) (by decide)]
  refine x.exit rfl tR ?_
  exact⟨.inr rfl,⟨rfl,rfl,rfl,tR⟩,tR,rfl⟩
 refine x.cond rfl tR (fun h7=>?_) (fun h7=>?_)
 ·rw[fin 3 (kind_num h5 h6 h7) (by decide)]
  refine x.exit rfl tR ?_
  exact⟨.inr rfl,⟨rfl,rfl,rfl,tR⟩,tR,rfl⟩
 ·rw[oneN_bad hp h2 h3 (by rw[hq,hb];exact kind_none h5 h6 h7)]
  refine x.exit rfl tR ?_
  exact⟨.inr rfl,⟨rfl,rfl,rfl,tR⟩,tR,rfl⟩
def dToks (l:List Tok):D:=.sl 3 l.length fun i=>dTok (l.getD i tok0)
abbrev tv (l:List Tok):V:=.d (dToks l)
abbrev tokC (l:List Tok):Ch:=.vec 183 3 l.length fun i=>dTok (l.getD i tok0)
theorem app_tok (l:List Tok) (t:Tok) (j:Nat) (hj:j<l.length+1):app l.length (fun i=>dTok (l.getD i tok0)) (fun _=>dTok t) j=dTok ((l++[t]).getD j tok0):=by
 unfold app
 by_cases h:j<l.length
 ·show zipIte (j<l.length) (dTok (l.getD j tok0)) (dTok t)=_
  rw[List.getD_eq_getElem?_getD,List.getD_eq_getElem?_getD,List.getElem?_append_left h]
  simp only[dTok,zipIte,iteD_pos h]
  rw[if_pos h]
 ·show zipIte (j<l.length) (dTok (l.getD j tok0)) (dTok t)=_
  have e:j=l.length:=by omega
  rw[List.getD_eq_getElem?_getD (l:=l++[t]),List.getElem?_append_right (by omega),e,Nat.sub_self]
  simp only[dTok,zipIte,iteD_neg (Nat.lt_irrefl _)]
  rw[if_neg (Nat.lt_irrefl _)]
  rfl
theorem kind_empty {b:ByteArray} (h:b.size=0):kindOf b=0:=by
 have e:b.data.toList=[]:=List.eq_nil_of_length_eq_zero (by rw[←size_list];exact h)
 rw[ba_eq b,e]
 decide +kernel
theorem kind_piece {s:ByteArray} {p q:Nat} (h:kindOf (s.extract p q)≠0):p<q:=by
 rcases Nat.lt_or_ge p q with h1 | h1
 ·exact h1
 ·exact absurd (kind_empty (by rw[ByteArray.size_extract];omega)) h
theorem one_facts {s:ByteArray} {a:Nat} (ha:a≤s.size):((oneN s a).2.2=0∧(a:Int)≤(oneN s a).1.f∧(oneN s a).1.f<(oneN s a).1.t∧(oneN s a).1.t≤s.size)∨(oneN s a).2.2=4∨(oneN s a).2.2=6:=by
 obtain⟨h1,h2,h3⟩:=skV_le s s.size false a (by omega) ha
 obtain⟨p,hp⟩:∃p,skV s false a=p:=⟨_,rfl⟩
 rw[hp] at h1 h2
 by_cases e:p=s.size
 ·rw[oneN_none hp e];exact .inr (.inl rfl)
 ·cases hs:signB (bt s p) with
  | true=>
   rw[oneN_sign hp e hs]
   exact .inl ⟨rfl,by show (a:Int)≤p;omega,by show (p:Int)<p+1;omega,by show (p:Int)+1≤s.size;omega⟩
  | false=>
   by_cases hk:kindOf (s.extract p (pieceEnd s p))=0
   ·rw[oneN_bad hp e hs hk];exact .inr (.inr rfl)
   ·rw[oneN_ok hp e hs hk]
    have h4:=kind_piece hk
    have h5:=pieceEnd_le (s:=s) (p:=p) (by omega)
    exact .inl ⟨rfl,by show (a:Int)≤p;omega,by show (p:Int)<pieceEnd s p;omega,by show (pieceEnd s p:Int)≤s.size;omega⟩
def toksF (s:ByteArray):Nat->Nat->List Tok->List Tok×Int×Int
 | 0,_,_=>([],0,0)
 | n+1,a,out=>if (oneN s a).2.2=4 then (out,0,0) else if (oneN s a).2.2=0 then toksF s n (oneN s a).1.t.toNat (out++[(oneN s a).1]) else ([],(oneN s a).2.1,(oneN s a).2.2)
def allV (s:ByteArray):List Tok×Int×Int:=
 if 65536<s.size then ([],0,2)
 else if 0≤badV s s.size 0 then ([],badV s s.size 0,5)
 else toksF s (s.size+1) 0 []
structure TI3 (s:ByteArray) where
 n:Nat
 a:Nat
 out:List Tok
 ha:a≤s.size
 fuel:s.size+1≤a+n
 len:out.length≤a
 same:toksF s n a out=toksF s (s.size+1) 0 []
theorem clipT_spec (l:List Tok) (hl:l.length≤big):Pure PG 89 [tv l] (tv l) []:=by
 refine Proc.mk (cfg 9) tysOK [] Tryz.func89 rfl (by kernel_rfl) rfl rfl rfl ?_
 intro C x
 unfold big at hl
 refine x.exit rfl ?_ ?_
 ·simp only[AllP];omega
 ·exact⟨.inr rfl,veq_d rfl,tR,rfl⟩
theorem toks_spec (s:ByteArray) (hs:s.size≤4611686018427387904):Pure PG 42 [vs s] (.tup [tv (allV s).1,vi (allV s).2.1,vi (allV s).2.2]) []:=by
 refine Proc.mk (cfg 40) tysOK [] Tryz.func42 rfl (by kernel_rfl) rfl rfl rfl ?_
 intro C x
 refine x.cond rfl tR (fun h=>?_) (fun h=>?_)
 ·have h:(65536:Int)<s.size:=of_decide_eq_true h
  rw[allV,if_pos (by omega)]
  refine x.exit rfl tR ?_
  exact⟨.inr rfl,⟨rfl,rfl,rfl,tR⟩,tR,rfl⟩
 have h:¬(65536:Int)<s.size:=of_decide_eq_false h
 rw[allV,if_neg (by omega)]
 refine x.pure rfl tR rfl (badW_spec s (by omega)) ⟨rfl,tR⟩ ?_
 refine x.cond rfl tR (fun h2=>?_) (fun h2=>?_)
 ·have h2:0≤badV s s.size 0:=of_decide_eq_true h2
  rw[if_pos h2]
  refine x.exit rfl tR ?_
  exact⟨.inr rfl,⟨rfl,rfl,rfl,tR⟩,tR,rfl⟩
 have h2:¬0≤badV s s.size 0:=of_decide_eq_false h2
 rw[if_neg h2]
 refine x.toLoop rfl tR ?_
 refine Go.own 6 183 3 (fun j=>dTok (([]:List Tok).getD j tok0)) rfl ?_
 refine x.loop (α:=TI3 s) (fun y=>⟨[(0,vs s),(6, .own 0),(7,vi (y.a:Int))],[(0,tokC y.out)],1⟩) (fun y=>y.n) ⟨s.size+1,0,[],by omega,by omega,by simp,rfl⟩ rfl tR ⟨⟨rfl,rfl,rfl,tR⟩,⟨⟨rfl,rfl,rfl,fun j hj=>absurd hj (Nat.not_lt_zero _)⟩,tR⟩,rfl⟩ (fun y=>?_)
 obtain⟨n,a,out,hal,fuel,len,same⟩:=y
 change Go C _ ⟨[(0,vs s),(6, .own 0),(7,vi (a:Int))],[(0,tokC out)],1⟩ _
 obtain⟨n,rfl⟩:∃m,n=m+1:=⟨n-1,by omega⟩
 refine x.pure rfl tR rfl (one_spec s (a:Int) hs) ⟨rfl,rfl,tR⟩ ?_
 rw[show oneV s (a:Int)=oneN s a by rw[oneV,if_neg (by omega),Int.toNat_natCast]]
 have hf:=one_facts hal
 rw[toksF] at same
 obtain⟨⟨t,place,e⟩,hr⟩:∃r,oneN s a=r:=⟨_,rfl⟩
 rw[hr] at hf same ⊢
 dsimp only at hf same
 refine x.cond rfl tR (fun h3=>?_) (fun h3=>?_)
 ·have h3:e=4:=of_decide_eq_true h3
  rw[if_pos h3] at same
  rw[←same]
  refine Sx.Go.freeze 0 ?_
  refine x.pure rfl tR rfl (clipT_spec out (by unfold big;omega)) ⟨veq_d rfl,tR⟩ ?_
  refine x.exit rfl tR ?_
  exact⟨.inr rfl,⟨veq0_d rfl,rfl,rfl,tR⟩,tR,rfl⟩
 have h3:e≠4:=of_decide_eq_false h3
 rw[if_neg h3] at same
 refine x.cond rfl tR (fun h4=>?_) (fun h4=>?_)
 ·have h4:(!decide (e=0))=true:=h4
  have h4:e≠0:=by simpa using h4
  rw[if_neg h4] at same
  rw[←same]
  refine x.exit rfl tR ?_
  exact⟨.inr rfl,⟨rfl,rfl,rfl,tR⟩,tR,rfl⟩
 have h4:(!decide (e=0))=false:=h4
 have h4:e=0:=by simpa using h4
 rw[if_pos h4] at same
 have hb:(a:Int)≤t.f∧t.f<t.t∧t.t≤s.size:=by
  rcases hf with h | h | h
  ·exact h.2
  ·omega
  ·omega
 refine x.back rfl ?_ ⟨⟨n,t.t.toNat,out++[t],by omega,by omega,by rw[List.length_append];simp only[List.length_cons,List.length_nil];omega,same⟩,by show n<n+1;omega,⟨rfl,rfl,?_,tR⟩,⟨⟨rfl,rfl,?_,fun j hj=>app_tok out t j hj⟩,tR⟩,rfl⟩
 ·simp only[AllP,big];omega
 ·show t.t=((t.t.toNat:Nat):Int);omega
 ·show out.length+1=(out++[t]).length;simp
theorem toks_len (s:ByteArray):∀(n a:Nat) (out:List Tok),a≤s.size->out.length≤a->(toksF s n a out).1.length≤s.size
 | 0,a,out,_,_=>by simp [toksF]
 | n+1,a,out,ha,hl=>by
  rw[toksF]
  split
  ·show out.length≤s.size;omega
  ·split
   ·rename_i h0
    have hf:=one_facts ha
    have hb:(a:Int)≤(oneN s a).1.f∧(oneN s a).1.f<(oneN s a).1.t∧(oneN s a).1.t≤s.size:=by
     rcases hf with h | h | h
     ·exact h.2
     ·omega
     ·omega
    exact toks_len s n _ _ (by omega) (by rw[List.length_append];simp only[List.length_cons,List.length_nil];omega)
   ·simp
theorem all_len (s:ByteArray):(allV s).1.length≤s.size:=by
 unfold allV
 split
 ·simp
 ·split
  ·simp
  ·exact toks_len s _ 0 [] (by omega) (by simp)
def Lies (s:ByteArray) (l:List Tok):Prop:=(∀t,t∈l->0≤t.f∧t.f<t.t∧t.t≤s.size)∧l.length≤140737488355328∧s.size≤140737488355328
abbrev pC (s:ByteArray) (l:List Tok) (n c:Nat):Ch:=.box [vs s,tv l,vi (n:Int),vi (c:Int)]
def atV (s:ByteArray) (l:List Tok) (n:Nat):Int:=if n<l.length then (l.getD n tok0).f else (s.size:Int)
def txV (s:ByteArray) (l:List Tok) (k:Nat):ByteArray:=if k<l.length then s.extract (l.getD k tok0).f.toNat (l.getD k tok0).t.toNat else .empty
def isV (l:List Tok) (n:Nat) (k:Int):Bool:=decide (n<l.length)&&decide ((l.getD n tok0).k=k)
abbrev stopT:Nat:=106
abbrev dieO (at_ e:Int):Out:=.die stopT [(.i64,at_),(.i64,e)]
theorem Lies.get {s:ByteArray} {l:List Tok} (h:Lies s l) {n:Nat} (hn:n<l.length):0≤(l.getD n tok0).f∧(l.getD n tok0).f<(l.getD n tok0).t∧(l.getD n tok0).t≤s.size:=by
 rw[List.getD_eq_getElem?_getD,List.getElem?_eq_getElem hn]
 exact h.1 _ (List.getElem_mem hn)
section
variable (s:ByteArray) (l:List Tok) (n c:Nat) (hl:Lies s l) (hn:n≤1000000000000000) (hc:c≤1000000)
include hn in
theorem at_spec:Proc PG 90 1 [.ptr 0 0] [pC s l n c] (vi (atV s l n)) [pC s l n c]:=by
 refine Proc.mk (cfgF 29 1) tysOK [0] Tryz.func90 rfl (by kernel_rfl) rfl rfl rfl ?_
 intro C x
 refine x.quiet rfl tR mixedP (by kernel_rfl) ?_
 refine x.qdone rfl tR ?_
 refine x.cond rfl tR (fun h=>?_) (fun h=>?_)
 ·have h:(n:Int)<(l.length:Int):=of_decide_eq_true h
  rw[atV,if_pos (by omega)]
  refine x.quiet rfl tR mixedP (by kernel_rfl) ?_
  refine x.qdone rfl ?_ ?_
  ·show 0≤(n:Int)∧(n:Int)<(l.length:Int)
   omega
  refine x.exit rfl tR ?_
  exact⟨.inr rfl,rfl,⟨⟨rfl,veq0_d rfl,rfl,rfl,tR⟩,tR⟩,rfl⟩
 ·have h:¬(n:Int)<(l.length:Int):=of_decide_eq_false h
  rw[atV,if_neg (by omega)]
  refine x.exit rfl tR ?_
  exact⟨.inr rfl,rfl,⟨⟨rfl,veq0_d rfl,rfl,rfl,tR⟩,tR⟩,rfl⟩
include hn in
theorem fail_spec (e:Int):Dies PG 48 [.ptr 0 0,vi e] [pC s l n c] stopT [(.i64,atV s l n),(.i64,e)]:=by
 refine ProcO.mk (out:=dieO (atV s l n) e) (cfgF 9 1) tysOK [0] Tryz.func48 rfl (by kernel_rfl) rfl rfl rfl ?_
 intro C x
 refine x.call [0] rfl tR rfl (at_spec s l n c hn) rfl ⟨⟨rfl,rfl⟩,tR⟩ ⟨⟨rfl,veq0_d rfl,rfl,rfl,tR⟩,tR⟩ ?_
 exact x.raise rfl tR rfl rfl rfl ⟨rfl,rfl⟩
include hn in
theorem room_spec (a b:Int):ProcO PG 45 1 [.ptr 0 0,vi a,vi b] [pC s l n c] (if b≤a then dieO (atV s l n) 3 else .ret (.tup []) [pC s l n c]):=by
 refine ProcO.mk (cfgF 11 1) tysOK [0] Tryz.func45 rfl (by kernel_rfl) rfl rfl (by split<;>rfl) ?_
 intro C x
 refine x.cond rfl tR (fun h=>?_) (fun h=>?_)
 ·have h:b≤a:=of_decide_eq_true h
  rw[if_pos h]
  exact x.die [0] rfl tR rfl (fail_spec s l n c hn 3) ⟨⟨rfl,rfl⟩,rfl,tR⟩ rfl ⟨⟨rfl,veq0_d rfl,rfl,rfl,tR⟩,tR⟩ ⟨rfl,rfl⟩
 ·have h:¬b≤a:=of_decide_eq_false h
  rw[if_neg h]
  refine x.exit rfl tR ?_
  exact⟨.inl rfl,tR,⟨⟨rfl,veq0_d rfl,rfl,rfl,tR⟩,tR⟩,rfl⟩
include hl hn in
theorem text_spec (k:Nat) (hk:k≤1):Proc PG 44 1 [.ptr 0 0,vi (k:Int)] [pC s l n c] (vs (txV s l (n+k))) [pC s l n c]:=by
 refine Proc.mk (cfgF 40 1) tysOK [0] Tryz.func44 rfl (by kernel_rfl) rfl rfl rfl ?_
 intro C x
 refine x.cond rfl ?_ (fun h=>?_) (fun h=>?_)
 ·simp only[AllP,inI64];omega
 ·have h:(n:Int)+k<(l.length:Int):=of_decide_eq_true h
  have h':n+k<l.length:=by omega
  have ht:=hl.get h'
  have hi:((n:Int)+k).toNat=n+k:=by omega
  rw[txV,if_pos h']
  have hsz:s.size≤140737488355328:=hl.2.2
  refine x.quiet rfl tR mixedP (by kernel_rfl) ?_
  refine x.qdone rfl ?_ ?_
  ·simp only[AllP,hi]
   omega
  refine x.exit rfl tR ?_
  refine⟨.inr rfl,?_,⟨⟨rfl,veq0_d rfl,rfl,rfl,tR⟩,tR⟩,rfl⟩
  rw[←hi];rfl
 ·have h:¬(n:Int)+k<(l.length:Int):=of_decide_eq_false h
  rw[txV,if_neg (by omega)]
  refine x.exit rfl tR ?_
  exact⟨.inr rfl,rfl,⟨⟨rfl,veq0_d rfl,rfl,rfl,tR⟩,tR⟩,rfl⟩
theorem is_spec (k:Int):Proc PG 92 1 [.ptr 0 0, .d (.int .u8 k)] [pC s l n c] (vb (isV l n k)) [pC s l n c]:=by
 refine Proc.mk (cfgF 30 1) tysOK [0] Tryz.func92 rfl (by kernel_rfl) rfl rfl rfl ?_
 intro C x
 refine x.quiet rfl tR mixedP (by kernel_rfl) ?_
 refine x.qdone rfl ?_ ?_
 ·simp only[AllP,decide_eq_true_eq]
  omega
 refine x.exit rfl tR ?_
 refine⟨.inr rfl,?_,⟨⟨rfl,veq0_d rfl,rfl,rfl,tR⟩,tR⟩,rfl⟩
 show VEq0 (vb (decide ((n:Int)<(l.length:Int))&&decide ((l.getD ((n:Int).toNat) tok0).k=k))) (vb (isV l n k))
 rw[isV,Int.toNat_natCast,show decide ((n:Int)<(l.length:Int))=decide (n<l.length) by simp]
 rfl
include hl hn in
theorem take_spec (k:Int):ProcO PG 149 1 [.ptr 0 0, .d (.int .u8 k)] [pC s l n c] (if isV l n k=true then .ret (vs (txV s l n)) [pC s l (n+1) c] else dieO (atV s l n) 7):=by
 refine ProcO.mk (cfgF 22 1) tysOK [0] Tryz.func149 rfl (by kernel_rfl) rfl rfl (by split<;>rfl) ?_
 intro C x
 refine x.call [0] rfl tR rfl (is_spec s l n c k) rfl ⟨⟨rfl,rfl⟩,rfl,tR⟩ ⟨⟨rfl,veq0_d rfl,rfl,rfl,tR⟩,tR⟩ ?_
 refine x.cond rfl tR (fun h=>?_) (fun h=>?_)
 ·have h:isV l n k=false:=by simpa using h
  rw[h,if_neg (by simp)]
  exact x.die [0] rfl tR rfl (fail_spec s l n c hn 7) ⟨⟨rfl,rfl⟩,rfl,tR⟩ rfl ⟨⟨rfl,veq0_d rfl,rfl,rfl,tR⟩,tR⟩ ⟨rfl,rfl⟩
 ·have h:isV l n k=true:=by simpa using h
  rw[h,if_pos rfl]
  refine x.call [0] rfl tR rfl (text_spec s l n c hl hn 0 (by omega)) rfl ⟨⟨rfl,rfl⟩,rfl,tR⟩ ⟨⟨rfl,veq0_d rfl,rfl,rfl,tR⟩,tR⟩ ?_
  refine x.exit rfl ?_ ?_
  ·simp only[AllP,inI64];omega
  ·exact⟨.inr rfl,rfl,⟨⟨rfl,veq0_d rfl,by show VEq0 (vi ((n:Int)+1)) (vi ((n+1:Nat):Int));rw[Int.natCast_add];rfl,rfl,tR⟩,tR⟩,rfl⟩
include hl hn in
theorem need_spec (t:ByteArray):ProcO PG 95 1 [.ptr 0 0,vs t] [pC s l n c] (if (txV s l n).data.toList=t.data.toList then .ret (.tup []) [pC s l (n+1) c] else dieO (atV s l n) 7):=by
 refine ProcO.mk (cfgF 17 1) tysOK [0] Tryz.func95 rfl (by kernel_rfl) rfl rfl (by split<;>rfl) ?_
 intro C x
 refine x.call [0] rfl tR rfl (text_spec s l n c hl hn 0 (by omega)) rfl ⟨⟨rfl,rfl⟩,rfl,tR⟩ ⟨⟨rfl,veq0_d rfl,rfl,rfl,tR⟩,tR⟩ ?_
 refine x.cond rfl tR (fun h=>?_) (fun h=>?_)
 ·have h:(!decide ((txV s l n).data.toList=t.data.toList))=true:=h
  rw[if_neg (by simpa using h)]
  exact x.die [0] rfl tR rfl (fail_spec s l n c hn 7) ⟨⟨rfl,rfl⟩,rfl,tR⟩ rfl ⟨⟨rfl,veq0_d rfl,rfl,rfl,tR⟩,tR⟩ ⟨rfl,rfl⟩
 ·have h:(!decide ((txV s l n).data.toList=t.data.toList))=false:=h
  rw[if_pos (by simpa using h)]
  refine x.exit rfl ?_ ?_
  ·simp only[AllP,inI64];omega
  ·exact⟨.inl rfl,tR,⟨⟨rfl,veq0_d rfl,by show VEq0 (vi ((n:Int)+1)) (vi ((n+1:Nat):Int));rw[Int.natCast_add];rfl,rfl,tR⟩,tR⟩,rfl⟩
include hl hn in
theorem name7_spec:ProcO PG 91 1 [.ptr 0 0] [pC s l n c] (if isV l n 1=true then .ret (vs (txV s l n)) [pC s l (n+1) c] else dieO (atV s l n) 7):=by
 refine ProcO.mk (cfgF 5 1) tysOK [0] Tryz.func91 rfl (by kernel_rfl) rfl rfl (by split<;>rfl) ?_
 intro C x
 have ht:=take_spec s l n c hl hn 1
 cases h:isV l n 1 with
 | false=>
  rw[h,if_neg (by simp)] at ht
  rw[if_neg (by simp)]
  exact x.die [0] rfl tR rfl ht ⟨⟨rfl,rfl⟩,rfl,tR⟩ rfl ⟨⟨rfl,veq0_d rfl,rfl,rfl,tR⟩,tR⟩ ⟨rfl,rfl⟩
 | true=>
  rw[h,if_pos rfl] at ht
  rw[if_pos rfl]
  refine x.call [0] rfl tR rfl ht rfl ⟨⟨rfl,rfl⟩,rfl,tR⟩ ⟨⟨rfl,veq0_d rfl,rfl,rfl,tR⟩,tR⟩ ?_
  refine x.exit rfl tR ?_
  exact⟨.inr rfl,rfl,⟨⟨rfl,veq0_d rfl,rfl,rfl,tR⟩,tR⟩,rfl⟩
def begB (s:ByteArray) (l:List Tok) (n:Nat):Bool:=isV l n 1&&decide ((txV s l (n+1)).data.toList=[58])
include hl hn in
theorem begins_spec:Proc PG 97 1 [.ptr 0 0] [pC s l n c] (vb (begB s l n)) [pC s l n c]:=by
 refine Proc.mk (cfgF 10 1) tysOK [0] Tryz.func97 rfl (by kernel_rfl) rfl rfl rfl ?_
 intro C x
 refine x.call [0] rfl tR rfl (is_spec s l n c 1) rfl ⟨⟨rfl,rfl⟩,rfl,tR⟩ ⟨⟨rfl,veq0_d rfl,rfl,rfl,tR⟩,tR⟩ ?_
 refine x.callG [0] rfl tR rfl (fun _=>text_spec s l n c hl hn 1 (by omega)) rfl ⟨⟨rfl,rfl⟩,rfl,tR⟩ ⟨⟨rfl,veq0_d rfl,rfl,rfl,tR⟩,tR⟩ ⟨⟨rfl,veq0_d rfl,rfl,rfl,tR⟩,tR⟩ ?_
 refine x.exit rfl tR ?_
 exact⟨.inr rfl,rfl,⟨⟨rfl,veq0_d rfl,rfl,rfl,tR⟩,tR⟩,rfl⟩
include hl hn in
theorem number7_spec:ProcO PG 93 1 [.ptr 0 0] [pC s l n c] (if isV l n 3=true then .ret (vi (numV (txV s l n)).1) [pC s l (n+1) c] else dieO (atV s l n) 7):=by
 refine ProcO.mk (cfgF 12 1) tysOK [0] Tryz.func93 rfl (by kernel_rfl) rfl rfl (by split<;>rfl) ?_
 intro C x
 have ht:=take_spec s l n c hl hn 3
 cases h:isV l n 3 with
 | false=>
  rw[h,if_neg (by simp)] at ht
  rw[if_neg (by simp)]
  exact x.die [0] rfl tR rfl ht ⟨⟨rfl,rfl⟩,rfl,tR⟩ rfl ⟨⟨rfl,veq0_d rfl,rfl,rfl,tR⟩,tR⟩ ⟨rfl,rfl⟩
 | true=>
  rw[h,if_pos rfl] at ht
  rw[if_pos rfl]
  refine x.call [0] rfl tR rfl ht rfl ⟨⟨rfl,rfl⟩,rfl,tR⟩ ⟨⟨rfl,veq0_d rfl,rfl,rfl,tR⟩,tR⟩ ?_
  refine x.pure rfl tR rfl (number_spec (txV s l n)) ⟨rfl,tR⟩ ?_
  refine x.exit rfl tR ?_
  exact⟨.inr rfl,rfl,⟨⟨rfl,veq0_d rfl,rfl,rfl,tR⟩,tR⟩,rfl⟩
end
abbrev strC (o:List ByteArray):Ch:=.vec 9 1 o.length fun i=>[.str (o.getD i .empty)]
theorem app_str (o:List ByteArray) (t:ByteArray) (j:Nat) (hj:j<o.length+1):app o.length (fun i=>[D.str (o.getD i .empty)]) (fun _=>[D.str t]) j=[D.str ((o++[t]).getD j .empty)]:=by
 unfold app
 by_cases h:j<o.length
 ·show zipIte (j<o.length) [D.str (o.getD j .empty)] [D.str t]=_
  rw[List.getD_eq_getElem?_getD,List.getD_eq_getElem?_getD,List.getElem?_append_left h]
  simp only[zipIte,iteD_pos h]
  rw[if_pos h]
 ·show zipIte (j<o.length) [D.str (o.getD j .empty)] [D.str t]=_
  have e:j=o.length:=by omega
  rw[List.getD_eq_getElem?_getD (l:=o++[t]),List.getElem?_append_right (by omega),e,Nat.sub_self]
  simp only[zipIte,iteD_neg (Nat.lt_irrefl _)]
  rw[if_neg (Nat.lt_irrefl _)]
  rfl
section
variable (s:ByteArray) (l:List Tok) (n c:Nat) (hl:Lies s l) (hn:n≤1000000000000000) (hc:c≤1000000)
include hl hn in
theorem names1_spec (o:List ByteArray) (ho:o.length≤1000):ProcO PG 151 3 [.ptr 1 0, .ptr 2 0] [pC s l n c, .box [.own 3], .box [.ptr 0 0],strC o] (if isV l n 1=true then .ret (.tup []) [pC s l (n+1) c, .box [.own 3], .box [.ptr 0 0],strC (o++[txV s l n])] else dieO (atV s l n) 7):=by
 refine ProcO.mk (cfgF 7 3) tysOK [0,1,2,3] Tryz.func151 rfl (by kernel_rfl) rfl rfl (by split<;>rfl) ?_
 intro C x
 have ht:=name7_spec s l n c hl hn
 cases h:isV l n 1 with
 | false=>
  rw[h,if_neg (by simp)] at ht
  rw[if_neg (by simp)]
  refine x.draw [0] [] [0,1] [2,3] [4,5] rfl tR mixedP (by kernel_rfl) RetO.quiet rfl tR (fun C1 x1=>?_)
  exact x1.die [0] rfl tR rfl ht ⟨⟨rfl,rfl⟩,tR⟩ rfl ⟨⟨rfl,veq0_d rfl,rfl,rfl,tR⟩,tR⟩ ⟨⟨_,rfl⟩,rfl,rfl,rfl⟩
 | true=>
  rw[h,if_pos rfl] at ht
  rw[if_pos rfl]
  refine x.draw [0] [] [0,1] [2,3] [4,5] rfl tR mixedP (by kernel_rfl) RetO.quiet rfl tR (fun C1 x1=>?_)
  refine x1.call [0] rfl tR rfl ht rfl ⟨⟨rfl,rfl⟩,tR⟩ ⟨⟨rfl,veq0_d rfl,rfl,rfl,tR⟩,tR⟩ ?_
  refine x1.back rfl tR ?_
  refine x1.back rfl tR ?_
  refine x.exit rfl ?_ ?_
  ·simp only[AllP,big];omega
  ·refine⟨.inl rfl,tR,⟨⟨rfl,veq0_d rfl,rfl,rfl,tR⟩,⟨rfl,tR⟩,⟨⟨rfl,rfl⟩,tR⟩,⟨rfl,rfl,?_,fun j hj=>app_str o _ j hj⟩,tR⟩,rfl⟩
   show o.length+1=(o++[txV s l n]).length
   simp
end
def namesF (s:ByteArray) (l:List Tok):Nat->Nat->Nat->List ByteArray->Except (Int×Int) (Nat×List ByteArray)
 | 0,_,_,_=>.error (0,0)
 | f+1,n,k,out=>
  if isV l n 1=true then
   if 6≤k then .error (atV s l n,3)
   else if (txV s l (n+1)).data.toList=[44] then namesF s l f (n+2) (k+1) (out++[txV s l n])
   else .ok (n+1,out++[txV s l n])
  else .error (atV s l n,7)
def namesO (s:ByteArray) (l:List Tok) (c:Nat):Except (Int×Int) (Nat×List ByteArray)->Out
 | .ok (n,o)=>.ret (.tup []) [pC s l n c, .box [.own 3], .box [.ptr 0 0],strC o]
 | .error (a,e)=>dieO a e
structure LW (s:ByteArray) (l:List Tok) (R:Except (Int×Int) (Nat×List ByteArray)) where
 f:Nat
 n:Nat
 k:Nat
 out:List ByteArray
 hf:l.length+2≤f+n
 hn:n≤l.length+1
 hk:k≤6
 ho:out.length=k
 same:namesF s l f n k out=R
theorem isV_lt {l:List Tok} {n:Nat} {k:Int} (h:isV l n k=true):n<l.length:=by
 unfold isV at h
 simp only[Bool.and_eq_true,decide_eq_true_eq] at h
 exact h.1
section
variable (s:ByteArray) (l:List Tok) (n c:Nat) (hl:Lies s l) (hn:n≤l.length)
include hl hn in
theorem list_names:ProcO PG 150 3 [.ptr 0 0,vi 6, .fn 151 [.ptr 1 0, .ptr 2 0]] [pC s l n c, .box [.own 3], .box [.ptr 0 0],strC []] (namesO s l c (namesF s l (l.length+2) n 0 [])):=by
 obtain⟨R,hR⟩:∃R,namesF s l (l.length+2) n 0 []=R:=⟨_,rfl⟩
 rw[hR]
 have hll:=hl.2.1
 refine ProcO.mk (cfgF 27 3) tysOK [0,1,2,3] Tryz.func150 rfl (by kernel_rfl) rfl rfl (by rcases R with⟨a,e⟩ | ⟨n,o⟩<;>rfl) ?_
 intro C x
 refine x.loop (α:=LW s l R) (fun y=>⟨[(0, .ptr 0 0),(1,vi 6),(2, .fn 151 [.ptr 1 0, .ptr 2 0]),(6,vi (y.k:Int))],[(0,pC s l y.n c),(1, .box [.own 3]),(2, .box [.ptr 0 0]),(3,strC y.out)],4⟩) (fun y=>y.f) ⟨l.length+2,n,0,[],by omega,by omega,by omega,rfl,hR⟩ rfl tR ⟨⟨⟨rfl,rfl⟩,rfl,rfl,rfl,tR⟩,⟨⟨rfl,veq0_d rfl,rfl,rfl,tR⟩,⟨rfl,tR⟩,⟨⟨rfl,rfl⟩,tR⟩,⟨rfl,rfl,rfl,fun j hj=>absurd hj (Nat.not_lt_zero _)⟩,tR⟩,rfl⟩ (fun y=>?_)
 obtain⟨f,n,k,out,hf,hn,hk,ho,same⟩:=y
 have hn2:n≤1000000000000000:=by omega
 change Go C _ ⟨[(0, .ptr 0 0),(1,vi 6),(2, .fn 151 [.ptr 1 0, .ptr 2 0]),(6,vi (k:Int))],[(0,pC s l n c),(1, .box [.own 3]),(2, .box [.ptr 0 0]),(3,strC out)],4⟩ _
 refine x.call [0] rfl tR rfl (is_spec s l n c 1) rfl ⟨⟨rfl,rfl⟩,rfl,tR⟩ ⟨⟨rfl,veq0_d rfl,rfl,rfl,tR⟩,tR⟩ ?_
 have h1:=names1_spec s l n c hl hn2 out (by omega)
 cases f with
 | zero=>omega
 | succ f=>
 rw[namesF] at same
 refine x.cond rfl tR (fun h=>?_) (fun h=>?_)
 ·have h:isV l n 1=true:=h
  have hlt:=isV_lt h
  rw[if_pos h] at same h1
  have h2:=room_spec s l n c hn2 (k:Int) 6
  by_cases h3:6≤k
  ·rw[if_pos h3] at same
   rw[if_pos (by omega)] at h2
   exact x.die [0] rfl tR rfl h2 ⟨⟨rfl,rfl⟩,rfl,rfl,tR⟩ rfl ⟨⟨rfl,veq0_d rfl,rfl,rfl,tR⟩,tR⟩ (by rw[←same];exact⟨rfl,rfl⟩)
  ·rw[if_neg h3] at same
   rw[if_neg (by omega)] at h2
   refine x.call [0] rfl tR rfl h2 rfl ⟨⟨rfl,rfl⟩,rfl,rfl,tR⟩ ⟨⟨rfl,veq0_d rfl,rfl,rfl,tR⟩,tR⟩ ?_
   refine x.call [0,1,2,3] rfl tR rfl h1 rfl ⟨⟨rfl,rfl⟩,⟨rfl,rfl⟩,tR⟩ ⟨⟨rfl,veq0_d rfl,rfl,rfl,tR⟩,⟨rfl,tR⟩,⟨⟨rfl,rfl⟩,tR⟩,⟨rfl,rfl,rfl,fun _ _=>rfl⟩,tR⟩ ?_
   refine x.call [0] rfl tR rfl (text_spec s l (n+1) c hl (by omega) 0 (by omega)) rfl ⟨⟨rfl,rfl⟩,rfl,tR⟩ ⟨⟨rfl,veq0_d rfl,rfl,rfl,tR⟩,tR⟩ ?_
   refine x.cond rfl tR (fun h4=>?_) (fun h4=>?_)
   ·have h4:(!decide ((txV s l (n+1)).data.toList=[44]))=true:=h4
    rw[if_neg (by simpa using h4)] at same
    refine x.exit rfl tR ?_
    rw[←same]
    exact⟨.inr rfl,tR,⟨⟨rfl,veq0_d rfl,rfl,rfl,tR⟩,⟨rfl,tR⟩,⟨⟨rfl,rfl⟩,tR⟩,⟨rfl,rfl,rfl,fun _ _=>rfl⟩,tR⟩,rfl⟩
   ·have h4:(!decide ((txV s l (n+1)).data.toList=[44]))=false:=h4
    rw[if_pos (by simpa using h4)] at same
    refine x.back rfl ?_ ⟨⟨f,n+2,k+1,out++[txV s l n],by omega,by omega,by omega,by rw[List.length_append,ho];rfl,same⟩,by show f<f+1;omega,⟨⟨rfl,rfl⟩,rfl,rfl,?_,tR⟩,⟨⟨rfl,veq0_d rfl,?_,rfl,tR⟩,⟨rfl,tR⟩,⟨⟨rfl,rfl⟩,tR⟩,⟨rfl,rfl,rfl,fun _ _=>rfl⟩,tR⟩,rfl⟩
    ·simp only[AllP,inI64];omega
    ·show VEq0 (vi ((k:Int)+1)) (vi ((k+1:Nat):Int));rw[Int.natCast_add];rfl
    ·show VEq0 (vi (((n+1:Nat):Int)+1)) (vi ((n+2:Nat):Int));rw[show (n+2:Nat)=(n+1)+1 by omega,Int.natCast_add (n+1) 1];rfl
 ·have h:isV l n 1=false:=h
  rw[h,if_neg (by simp)] at same h1
  exact x.die [0,1,2,3] rfl tR rfl h1 ⟨⟨rfl,rfl⟩,⟨rfl,rfl⟩,tR⟩ rfl ⟨⟨rfl,veq0_d rfl,rfl,rfl,tR⟩,⟨rfl,tR⟩,⟨⟨rfl,rfl⟩,tR⟩,⟨rfl,rfl,rfl,fun _ _=>rfl⟩,tR⟩ (by rw[←same];exact⟨rfl,rfl⟩)
end
theorem namesF_le {s:ByteArray} {l:List Tok}:∀{f n k:Nat} {out:List ByteArray} {n':Nat} {o:List ByteArray},namesF s l f n k out=.ok (n',o)->n'≤l.length∧n<n'∧(out.length=k->k≤6->o.length≤6)
 | 0,n,k,out,n',o,h=>by simp [namesF] at h
 | f+1,n,k,out,n',o,h=>by
  rw[namesF] at h
  split at h
  ·rename_i h1
   have h1:=isV_lt h1
   split at h
   ·cases h
   ·split at h
    ·obtain⟨e1,e2,e3⟩:=namesF_le h
     exact⟨e1,by omega,fun h2 h3=>e3 (by rw[List.length_append,h2];rfl) (by omega)⟩
    ·simp only[Except.ok.injEq,Prod.mk.injEq] at h
     obtain⟨rfl,rfl⟩:=h
     exact⟨by omega,by omega,fun h2 h3=>by rw[List.length_append,h2];show k+1≤6;omega⟩
  ·cases h
theorem tx_lt {s:ByteArray} {l:List Tok} {n:Nat} {b:UInt8} {r:List UInt8} (h:(txV s l n).data.toList=b::r):n<l.length:=by
 unfold txV at h
 split at h
 ·assumption
 ·cases h
def closeV {α:Type} (s:ByteArray) (l:List Tok) (b:UInt8):Except (Int×Int) (Nat×α)->Except (Int×Int) (Nat×α)
 | .error e=>.error e
 | .ok (n,o)=>if (txV s l n).data.toList=[b] then .ok (n+1,o) else .error (atV s l n,7)
def namesV (s:ByteArray) (l:List Tok) (n:Nat):Except (Int×Int) (Nat×List ByteArray):=
 if (txV s l n).data.toList=[40] then
  if (txV s l (n+1)).data.toList=[41] then .ok (n+2,[])
  else closeV s l 41 (namesF s l (l.length+2) (n+1) 0 [])
 else .error (atV s l n,7)
def namesVO (s:ByteArray) (l:List Tok) (c:Nat):Except (Int×Int) (Nat×List ByteArray)->Out
 | .ok (n,o)=>.ret (.own 1) [pC s l n c,strC o]
 | .error (a,e)=>dieO a e
section
variable (s:ByteArray) (l:List Tok) (n c:Nat) (hl:Lies s l) (hn:n≤l.length)
include hl hn in
theorem names7_spec:ProcO PG 94 1 [.ptr 0 0] [pC s l n c] (namesVO s l c (namesV s l n)):=by
 have hll:=hl.2.1
 refine ProcO.mk (cfgF 15 1) tysOK [0,3] Tryz.func94 rfl (by kernel_rfl) rfl rfl (by rcases namesV s l n with⟨a,e⟩ | ⟨n,o⟩<;>rfl) ?_
 intro C x
 refine x.op rfl tR ?_
 refine Go.ownB 2 0 9 1 (fun j=>[D.str (([]:List ByteArray).getD j .empty)]) rfl rfl ?_
 have h1:=need_spec s l n c hl (by omega) ⟨#[40]⟩
 by_cases hp:(txV s l n).data.toList=[40]
 ·rw[if_pos hp] at h1
  have hlt:=tx_lt hp
  refine x.call [0] rfl tR rfl h1 rfl ⟨⟨rfl,rfl⟩,rfl,tR⟩ ⟨⟨rfl,veq0_d rfl,rfl,rfl,tR⟩,tR⟩ ?_
  refine x.call [0] rfl tR rfl (text_spec s l (n+1) c hl (by omega) 0 (by omega)) rfl ⟨⟨rfl,rfl⟩,rfl,tR⟩ ⟨⟨rfl,veq0_d rfl,rfl,rfl,tR⟩,tR⟩ ?_
  refine x.cond rfl tR (fun h2=>?_) (fun h2=>?_)
  ·have h2:(!decide ((txV s l (n+1)).data.toList=[41]))=true:=h2
   have h3:¬(txV s l (n+1)).data.toList=[41]:=by simpa using h2
   have hls:=list_names s l (n+1) c hl (by omega)
   obtain⟨R,hR⟩:∃R,namesF s l (l.length+2) (n+1) 0 []=R:=⟨_,rfl⟩
   have hV:namesV s l n=closeV s l 41 R:=by
    rw[namesV,if_pos hp,if_neg h3,hR]
   rw[hR] at hls
   rcases R with⟨a,e⟩ | ⟨n',o⟩
   ·refine x.die [0,2,1,3] rfl tR rfl hls ⟨⟨rfl,rfl⟩,rfl,rfl,tR⟩ rfl ⟨⟨rfl,veq0_d rfl,rfl,rfl,tR⟩,⟨rfl,tR⟩,⟨⟨rfl,rfl⟩,tR⟩,⟨rfl,rfl,rfl,fun _ _=>rfl⟩,tR⟩ ?_
    rw[hV]
    exact⟨rfl,rfl⟩
   ·obtain⟨e1,e2,e3⟩:=namesF_le hR
    refine x.call [0,2,1,3] rfl tR rfl hls rfl ⟨⟨rfl,rfl⟩,rfl,rfl,tR⟩ ⟨⟨rfl,veq0_d rfl,rfl,rfl,tR⟩,⟨rfl,tR⟩,⟨⟨rfl,rfl⟩,tR⟩,⟨rfl,rfl,rfl,fun _ _=>rfl⟩,tR⟩ ?_
    have h4:=need_spec s l n' c hl (by omega) ⟨#[41]⟩
    by_cases h5:(txV s l n').data.toList=[41]
    ·rw[if_pos h5] at h4
     refine x.call [0] rfl tR rfl h4 rfl ⟨⟨rfl,rfl⟩,rfl,tR⟩ ⟨⟨rfl,veq0_d rfl,rfl,rfl,tR⟩,tR⟩ ?_
     refine x.exit rfl tR ?_
     rw[hV,closeV,if_pos h5]
     exact⟨.inr rfl,rfl,⟨⟨rfl,veq0_d rfl,rfl,rfl,tR⟩,⟨rfl,rfl,rfl,fun _ _=>rfl⟩,tR⟩,rfl⟩
    ·rw[if_neg h5] at h4
     refine x.die [0] rfl tR rfl h4 ⟨⟨rfl,rfl⟩,rfl,tR⟩ rfl ⟨⟨rfl,veq0_d rfl,rfl,rfl,tR⟩,tR⟩ ?_
     rw[hV,closeV,if_neg h5]
     exact⟨rfl,rfl⟩
  ·have h2:(!decide ((txV s l (n+1)).data.toList=[41]))=false:=h2
   have h3:(txV s l (n+1)).data.toList=[41]:=by simpa using h2
   have h4:=need_spec s l (n+1) c hl (by omega) ⟨#[41]⟩
   rw[if_pos h3] at h4
   refine x.call [0] rfl tR rfl h4 rfl ⟨⟨rfl,rfl⟩,rfl,tR⟩ ⟨⟨rfl,veq0_d rfl,rfl,rfl,tR⟩,tR⟩ ?_
   refine x.exit rfl tR ?_
   rw[namesV,if_pos hp,if_pos h3]
   exact⟨.inr rfl,rfl,⟨⟨rfl,veq0_d rfl,rfl,rfl,tR⟩,⟨rfl,rfl,rfl,fun _ _=>rfl⟩,tR⟩,rfl⟩
 ·rw[if_neg hp] at h1
  refine x.die [0] rfl tR rfl h1 ⟨⟨rfl,rfl⟩,rfl,tR⟩ rfl ⟨⟨rfl,veq0_d rfl,rfl,rfl,tR⟩,tR⟩ ?_
  rw[namesV,if_neg hp]
  exact⟨rfl,rfl⟩
end
structure Ins where
 kind:Int
 op:Int
 dst:ByteArray
 ref:ByteArray
 alt:ByteArray
 args:List ByteArray
 frm:List ByteArray
 num:Int
 at_:Int
abbrev iC (x:Ins):Ch:=.box [.d (.int .u8 x.kind), .d (.int .u8 x.op),vs x.dst,vs x.ref,vs x.alt, .own 2, .own 3,vi x.num,vi x.at_]
abbrev HX (s:ByteArray) (l:List Tok) (n c:Nat) (x:Ins):List Ch:=[pC s l n c,iC x,strC x.args,strC x.frm]
def outI (s:ByteArray) (l:List Tok) (c:Nat):Except (Int×Int) (Nat×Ins)->Out
 | .ok (n,x)=>.ret (.tup []) (HX s l n c x)
 | .error (a,e)=>dieO a e
theorem okI {s:ByteArray} {l:List Tok} {n c:Nat} {x:Ins} {m:Nat} (hm:2≤m) (r:Except (Int×Int) (Nat×Ins)):okOut (cfgF m 2) [.ptr 0 0, .ptr 1 0] (HX s l n c x) (outI s l c r)=true:=by
 have h:Nat.ble 2 m=true:=by simpa using hm
 rcases r with⟨a,e⟩ | ⟨n',x'⟩
 ·show (Nat.ble 2 m&&_&&_)=true
  rw[h];rfl
 ·show (Nat.ble 2 m&&_&&_&&_&&_)=true
  rw[h];rfl
def nmV (s:ByteArray) (l:List Tok) (n:Nat):Except (Int×Int) (Nat×ByteArray):=if isV l n 1=true then .ok (n+1,txV s l n) else .error (atV s l n,7)
def bnd {α β:Type} (r:Except (Int×Int) (Nat×α)) (k:Nat->α->Except (Int×Int) (Nat×β)):Except (Int×Int) (Nat×β):=
 match r with
 | .error e=>.error e
 | .ok (n,a)=>k n a
theorem len1 (o:List ByteArray) (t:ByteArray):o.length+1=(o++[t]).length:=by simp
def argV (s:ByteArray) (l:List Tok) (n:Nat) (x:Ins):Except (Int×Int) (Nat×Ins):=bnd (nmV s l n) fun n a=>.ok (n,{x with args:=x.args++[a]})
def act1V (s:ByteArray) (l:List Tok) (n:Nat) (x:Ins):Except (Int×Int) (Nat×Ins):=
 bnd (nmV s l n) fun n r=>let x:Ins:={{x with kind:=6} with ref:=r};bnd (argV s l n x) fun n x=>bnd (argV s l n x) fun n x=>.ok (n,x)
def act2V (s:ByteArray) (l:List Tok) (n:Nat) (x:Ins):Except (Int×Int) (Nat×Ins):=
 bnd (nmV s l n) fun n r=>let x:Ins:={{x with kind:=9} with ref:=r};bnd (argV s l n x) fun n x=>.ok (n,x)
def act3V (s:ByteArray) (l:List Tok) (n:Nat) (x:Ins):Except (Int×Int) (Nat×Ins):=
 bnd (nmV s l n) fun n r=>let x:Ins:={{x with kind:=11} with ref:=r};.ok (n,x)
def act4V (s:ByteArray) (l:List Tok) (n:Nat) (x:Ins):Except (Int×Int) (Nat×Ins):=
 bnd (argV s l n {x with kind:=12}) fun n x=>bnd (nmV s l n) fun n r=>let x:Ins:={x with ref:=r};bnd (nmV s l n) fun n r=>let x:Ins:={x with alt:=r};.ok (n,x)
def act5V (s:ByteArray) (l:List Tok) (n:Nat) (x:Ins):Except (Int×Int) (Nat×Ins):=
 bnd (argV s l n {x with kind:=13}) fun n x=>.ok (n,x)
section
variable (s:ByteArray) (l:List Tok) (n c:Nat) (hl:Lies s l) (hn:n≤l.length) (y:Ins) (hy:y.args.length≤1000)
include hl hn hy in
theorem act1_spec:ProcO PG 198 2 [.ptr 0 0, .ptr 1 0] (HX s l n c y) (outI s l c (act1V s l n y)):=by
 have hll:=hl.2.1
 refine ProcO.mk (cfgF 34 2) tysOK [0,1,2,3] Tryz.func198 rfl (by kernel_rfl) rfl rfl (okI (by omega) _) ?_
 intro C x
 have h1:=name7_spec s l n c hl (by omega)
 cases e1:isV l n 1 with
 | false=>
  rw[e1,if_neg (by simp)] at h1
  refine x.die [0] rfl tR rfl h1 ⟨⟨rfl,rfl⟩,tR⟩ rfl ⟨⟨rfl,veq0_d rfl,rfl,rfl,tR⟩,tR⟩ ?_
  simp only[act1V,argV,nmV,bnd,e1,if_true,Bool.false_eq_true,if_false]
  exact⟨rfl,rfl⟩
 | true=>
  rw[e1,if_pos rfl] at h1
  have l1:=isV_lt e1
  refine x.call [0] rfl tR rfl h1 rfl ⟨⟨rfl,rfl⟩,tR⟩ ⟨⟨rfl,veq0_d rfl,rfl,rfl,tR⟩,tR⟩ ?_
  have h2:=name7_spec s l (n+1) c hl (by omega)
  cases e2:isV l (n+1) 1 with
  | false=>
   rw[e2,if_neg (by simp)] at h2
   refine x.draw [0] [0,1,5] [2,3,4] [6,7] [8,9,10,11] rfl tR mixedP (by kernel_rfl) RetO.quiet rfl tR (fun C1 x1=>?_)
   refine x1.die [0] rfl tR rfl h2 ⟨⟨rfl,rfl⟩,tR⟩ rfl ⟨⟨rfl,veq0_d rfl,rfl,rfl,tR⟩,tR⟩ ⟨⟨_,rfl⟩,rfl,?_⟩
   simp only[act1V,argV,nmV,bnd,e1,e2,if_true,Bool.false_eq_true,if_false]
   exact⟨rfl,rfl⟩
  | true=>
   rw[e2,if_pos rfl] at h2
   have l2:=isV_lt e2
   refine x.draw [0] [0,1,5] [2,3,4] [6,7] [8,9,10,11] rfl tR mixedP (by kernel_rfl) RetO.quiet rfl tR (fun C1 x1=>?_)
   refine x1.call [0] rfl tR rfl h2 rfl ⟨⟨rfl,rfl⟩,tR⟩ ⟨⟨rfl,veq0_d rfl,rfl,rfl,tR⟩,tR⟩ ?_
   refine x1.back rfl tR ?_
   refine x1.back rfl tR ?_
   refine x.code rfl (by simp only[AllP,big,List.length_append,List.length_cons,List.length_nil];omega) ?_
   refine x.le (s':=⟨[(0, .ptr 0 0),(1, .ptr 1 0)],[(0,pC s l (n+1+1) c),(1,iC {y with kind:=6,ref:=txV s l n}),(2,strC (y.args++[txV s l (n+1)])),(3,strC y.frm)],4⟩) ⟨⟨⟨rfl,rfl⟩,⟨rfl,rfl⟩,tR⟩,⟨⟨rfl,veq0_d rfl,rfl,rfl,tR⟩,⟨rfl,rfl,rfl,rfl,rfl,rfl,rfl,rfl,rfl,tR⟩,⟨rfl,rfl,len1 _ _,fun j hj=>app_str _ _ j hj⟩,⟨rfl,rfl,rfl,fun _ _=>rfl⟩,tR⟩,rfl⟩ ?_
   have h3:=name7_spec s l (n+1+1) c hl (by omega)
   cases e3:isV l (n+1+1) 1 with
   | false=>
    rw[e3,if_neg (by simp)] at h3
    refine x.draw [0] [0,1,5] [2,3,4] [6,7] [8,9,10,11] rfl tR mixedP (by kernel_rfl) RetO.quiet rfl tR (fun C1 x1=>?_)
    refine x1.die [0] rfl tR rfl h3 ⟨⟨rfl,rfl⟩,tR⟩ rfl ⟨⟨rfl,veq0_d rfl,rfl,rfl,tR⟩,tR⟩ ⟨⟨_,rfl⟩,rfl,?_⟩
    simp only[act1V,argV,nmV,bnd,e1,e2,e3,if_true,Bool.false_eq_true,if_false]
    exact⟨rfl,rfl⟩
   | true=>
    rw[e3,if_pos rfl] at h3
    have l3:=isV_lt e3
    refine x.draw [0] [0,1,5] [2,3,4] [6,7] [8,9,10,11] rfl tR mixedP (by kernel_rfl) RetO.quiet rfl tR (fun C1 x1=>?_)
    refine x1.call [0] rfl tR rfl h3 rfl ⟨⟨rfl,rfl⟩,tR⟩ ⟨⟨rfl,veq0_d rfl,rfl,rfl,tR⟩,tR⟩ ?_
    refine x1.back rfl tR ?_
    refine x1.back rfl tR ?_
    refine x.exit rfl (by simp only[AllP,big,List.length_append,List.length_cons,List.length_nil];omega) ?_
    simp only[act1V,argV,nmV,bnd,e1,e2,e3,if_true,Bool.false_eq_true,if_false]
    exact⟨.inl rfl,tR,⟨⟨rfl,veq0_d rfl,rfl,rfl,tR⟩,⟨rfl,rfl,rfl,rfl,rfl,rfl,rfl,rfl,rfl,tR⟩,⟨rfl,rfl,len1 _ _,fun j hj=>app_str _ _ j hj⟩,⟨rfl,rfl,rfl,fun _ _=>rfl⟩,tR⟩,rfl⟩
include hl hn hy in
theorem act2_spec:ProcO PG 199 2 [.ptr 0 0, .ptr 1 0] (HX s l n c y) (outI s l c (act2V s l n y)):=by
 have hll:=hl.2.1
 refine ProcO.mk (cfgF 23 2) tysOK [0,1,2,3] Tryz.func199 rfl (by kernel_rfl) rfl rfl (okI (by omega) _) ?_
 intro C x
 have h1:=name7_spec s l n c hl (by omega)
 cases e1:isV l n 1 with
 | false=>
  rw[e1,if_neg (by simp)] at h1
  refine x.die [0] rfl tR rfl h1 ⟨⟨rfl,rfl⟩,tR⟩ rfl ⟨⟨rfl,veq0_d rfl,rfl,rfl,tR⟩,tR⟩ ?_
  simp only[act2V,argV,nmV,bnd,e1,if_true,Bool.false_eq_true,if_false]
  exact⟨rfl,rfl⟩
 | true=>
  rw[e1,if_pos rfl] at h1
  have l1:=isV_lt e1
  refine x.call [0] rfl tR rfl h1 rfl ⟨⟨rfl,rfl⟩,tR⟩ ⟨⟨rfl,veq0_d rfl,rfl,rfl,tR⟩,tR⟩ ?_
  have h2:=name7_spec s l (n+1) c hl (by omega)
  cases e2:isV l (n+1) 1 with
  | false=>
   rw[e2,if_neg (by simp)] at h2
   refine x.draw [0] [0,1,5] [2,3,4] [6,7] [8,9,10,11] rfl tR mixedP (by kernel_rfl) RetO.quiet rfl tR (fun C1 x1=>?_)
   refine x1.die [0] rfl tR rfl h2 ⟨⟨rfl,rfl⟩,tR⟩ rfl ⟨⟨rfl,veq0_d rfl,rfl,rfl,tR⟩,tR⟩ ⟨⟨_,rfl⟩,rfl,?_⟩
   simp only[act2V,argV,nmV,bnd,e1,e2,if_true,Bool.false_eq_true,if_false]
   exact⟨rfl,rfl⟩
  | true=>
   rw[e2,if_pos rfl] at h2
   have l2:=isV_lt e2
   refine x.draw [0] [0,1,5] [2,3,4] [6,7] [8,9,10,11] rfl tR mixedP (by kernel_rfl) RetO.quiet rfl tR (fun C1 x1=>?_)
   refine x1.call [0] rfl tR rfl h2 rfl ⟨⟨rfl,rfl⟩,tR⟩ ⟨⟨rfl,veq0_d rfl,rfl,rfl,tR⟩,tR⟩ ?_
   refine x1.back rfl tR ?_
   refine x1.back rfl tR ?_
   refine x.exit rfl (by simp only[AllP,big,List.length_append,List.length_cons,List.length_nil];omega) ?_
   simp only[act2V,argV,nmV,bnd,e1,e2,if_true,Bool.false_eq_true,if_false]
   exact⟨.inl rfl,tR,⟨⟨rfl,veq0_d rfl,rfl,rfl,tR⟩,⟨rfl,rfl,rfl,rfl,rfl,rfl,rfl,rfl,rfl,tR⟩,⟨rfl,rfl,len1 _ _,fun j hj=>app_str _ _ j hj⟩,⟨rfl,rfl,rfl,fun _ _=>rfl⟩,tR⟩,rfl⟩
include hl hn in
theorem act3_spec:ProcO PG 200 2 [.ptr 0 0, .ptr 1 0] (HX s l n c y) (outI s l c (act3V s l n y)):=by
 have hll:=hl.2.1
 refine ProcO.mk (cfgF 12 2) tysOK [0,1,2,3] Tryz.func200 rfl (by kernel_rfl) rfl rfl (okI (by omega) _) ?_
 intro C x
 have h1:=name7_spec s l n c hl (by omega)
 cases e1:isV l n 1 with
 | false=>
  rw[e1,if_neg (by simp)] at h1
  refine x.die [0] rfl tR rfl h1 ⟨⟨rfl,rfl⟩,tR⟩ rfl ⟨⟨rfl,veq0_d rfl,rfl,rfl,tR⟩,tR⟩ ?_
  simp only[act3V,argV,nmV,bnd,e1,if_true,Bool.false_eq_true,if_false]
  exact⟨rfl,rfl⟩
 | true=>
  rw[e1,if_pos rfl] at h1
  have l1:=isV_lt e1
  refine x.call [0] rfl tR rfl h1 rfl ⟨⟨rfl,rfl⟩,tR⟩ ⟨⟨rfl,veq0_d rfl,rfl,rfl,tR⟩,tR⟩ ?_
  refine x.exit rfl tR ?_
  simp only[act3V,argV,nmV,bnd,e1,if_true,Bool.false_eq_true,if_false]
  exact⟨.inl rfl,tR,⟨⟨rfl,veq0_d rfl,rfl,rfl,tR⟩,⟨rfl,rfl,rfl,rfl,rfl,rfl,rfl,rfl,rfl,tR⟩,⟨rfl,rfl,rfl,fun _ _=>rfl⟩,⟨rfl,rfl,rfl,fun _ _=>rfl⟩,tR⟩,rfl⟩
include hl hn hy in
theorem act4_spec:ProcO PG 201 2 [.ptr 0 0, .ptr 1 0] (HX s l n c y) (outI s l c (act4V s l n y)):=by
 have hll:=hl.2.1
 refine ProcO.mk (cfgF 28 2) tysOK [0,1,2,3] Tryz.func201 rfl (by kernel_rfl) rfl rfl (okI (by omega) _) ?_
 intro C x
 have h1:=name7_spec s l n c hl (by omega)
 cases e1:isV l n 1 with
 | false=>
  rw[e1,if_neg (by simp)] at h1
  refine x.draw [0] [0,1,5] [2,3,4] [6,7] [8,9,10,11] rfl tR mixedP (by kernel_rfl) RetO.quiet rfl tR (fun C1 x1=>?_)
  refine x1.die [0] rfl tR rfl h1 ⟨⟨rfl,rfl⟩,tR⟩ rfl ⟨⟨rfl,veq0_d rfl,rfl,rfl,tR⟩,tR⟩ ⟨⟨_,rfl⟩,rfl,?_⟩
  simp only[act4V,argV,nmV,bnd,e1,if_true,Bool.false_eq_true,if_false]
  exact⟨rfl,rfl⟩
 | true=>
  rw[e1,if_pos rfl] at h1
  have l1:=isV_lt e1
  refine x.draw [0] [0,1,5] [2,3,4] [6,7] [8,9,10,11] rfl tR mixedP (by kernel_rfl) RetO.quiet rfl tR (fun C1 x1=>?_)
  refine x1.call [0] rfl tR rfl h1 rfl ⟨⟨rfl,rfl⟩,tR⟩ ⟨⟨rfl,veq0_d rfl,rfl,rfl,tR⟩,tR⟩ ?_
  refine x1.back rfl tR ?_
  refine x1.back rfl tR ?_
  have h2:=name7_spec s l (n+1) c hl (by omega)
  cases e2:isV l (n+1) 1 with
  | false=>
   rw[e2,if_neg (by simp)] at h2
   refine x.die [0] rfl (by simp only[AllP,big,List.length_append,List.length_cons,List.length_nil];omega) rfl h2 ⟨⟨rfl,rfl⟩,tR⟩ rfl ⟨⟨rfl,veq0_d rfl,rfl,rfl,tR⟩,tR⟩ ?_
   simp only[act4V,argV,nmV,bnd,e1,e2,if_true,Bool.false_eq_true,if_false]
   exact⟨rfl,rfl⟩
  | true=>
   rw[e2,if_pos rfl] at h2
   have l2:=isV_lt e2
   refine x.call [0] rfl (by simp only[AllP,big,List.length_append,List.length_cons,List.length_nil];omega) rfl h2 rfl ⟨⟨rfl,rfl⟩,tR⟩ ⟨⟨rfl,veq0_d rfl,rfl,rfl,tR⟩,tR⟩ ?_
   have h3:=name7_spec s l (n+1+1) c hl (by omega)
   cases e3:isV l (n+1+1) 1 with
   | false=>
    rw[e3,if_neg (by simp)] at h3
    refine x.die [0] rfl tR rfl h3 ⟨⟨rfl,rfl⟩,tR⟩ rfl ⟨⟨rfl,veq0_d rfl,rfl,rfl,tR⟩,tR⟩ ?_
    simp only[act4V,argV,nmV,bnd,e1,e2,e3,if_true,Bool.false_eq_true,if_false]
    exact⟨rfl,rfl⟩
   | true=>
    rw[e3,if_pos rfl] at h3
    have l3:=isV_lt e3
    refine x.call [0] rfl tR rfl h3 rfl ⟨⟨rfl,rfl⟩,tR⟩ ⟨⟨rfl,veq0_d rfl,rfl,rfl,tR⟩,tR⟩ ?_
    refine x.exit rfl tR ?_
    simp only[act4V,argV,nmV,bnd,e1,e2,e3,if_true,Bool.false_eq_true,if_false]
    exact⟨.inl rfl,tR,⟨⟨rfl,veq0_d rfl,rfl,rfl,tR⟩,⟨rfl,rfl,rfl,rfl,rfl,rfl,rfl,rfl,rfl,tR⟩,⟨rfl,rfl,len1 _ _,fun j hj=>app_str _ _ j hj⟩,⟨rfl,rfl,rfl,fun _ _=>rfl⟩,tR⟩,rfl⟩
include hl hn hy in
theorem act5_spec:ProcO PG 202 2 [.ptr 0 0, .ptr 1 0] (HX s l n c y) (outI s l c (act5V s l n y)):=by
 have hll:=hl.2.1
 refine ProcO.mk (cfgF 18 2) tysOK [0,1,2,3] Tryz.func202 rfl (by kernel_rfl) rfl rfl (okI (by omega) _) ?_
 intro C x
 have h1:=name7_spec s l n c hl (by omega)
 cases e1:isV l n 1 with
 | false=>
  rw[e1,if_neg (by simp)] at h1
  refine x.draw [0] [0,1,5] [2,3,4] [6,7] [8,9,10,11] rfl tR mixedP (by kernel_rfl) RetO.quiet rfl tR (fun C1 x1=>?_)
  refine x1.die [0] rfl tR rfl h1 ⟨⟨rfl,rfl⟩,tR⟩ rfl ⟨⟨rfl,veq0_d rfl,rfl,rfl,tR⟩,tR⟩ ⟨⟨_,rfl⟩,rfl,?_⟩
  simp only[act5V,argV,nmV,bnd,e1,if_true,Bool.false_eq_true,if_false]
  exact⟨rfl,rfl⟩
 | true=>
  rw[e1,if_pos rfl] at h1
  have l1:=isV_lt e1
  refine x.draw [0] [0,1,5] [2,3,4] [6,7] [8,9,10,11] rfl tR mixedP (by kernel_rfl) RetO.quiet rfl tR (fun C1 x1=>?_)
  refine x1.call [0] rfl tR rfl h1 rfl ⟨⟨rfl,rfl⟩,tR⟩ ⟨⟨rfl,veq0_d rfl,rfl,rfl,tR⟩,tR⟩ ?_
  refine x1.back rfl tR ?_
  refine x1.back rfl tR ?_
  refine x.exit rfl (by simp only[AllP,big,List.length_append,List.length_cons,List.length_nil];omega) ?_
  simp only[act5V,argV,nmV,bnd,e1,if_true,Bool.false_eq_true,if_false]
  exact⟨.inl rfl,tR,⟨⟨rfl,veq0_d rfl,rfl,rfl,tR⟩,⟨rfl,rfl,rfl,rfl,rfl,rfl,rfl,rfl,rfl,tR⟩,⟨rfl,rfl,len1 _ _,fun j hj=>app_str _ _ j hj⟩,⟨rfl,rfl,rfl,fun _ _=>rfl⟩,tR⟩,rfl⟩
end
def oneV7 (s:ByteArray) (l:List Tok) (n:Nat) (x:Ins):Except (Int×Int) (Nat×Ins):=bnd (nmV s l n) fun n a=>.ok (n,{x with args:=[a]})
def refV (s:ByteArray) (l:List Tok) (n:Nat) (x:Ins):Except (Int×Int) (Nat×Ins):=bnd (nmV s l n) fun n a=>.ok (n,{x with ref:=a})
def constV (s:ByteArray) (l:List Tok) (n:Nat) (x:Ins):Except (Int×Int) (Nat×Ins):=if isV l n 3=true then .ok (n+1,{x with kind:=1,num:=(numV (txV s l n)).1}) else .error (atV s l n,7)
def inputV (s:ByteArray) (l:List Tok) (n:Nat) (x:Ins):Except (Int×Int) (Nat×Ins):=refV s l n {x with kind:=8}
def callV (s:ByteArray) (l:List Tok) (n:Nat) (x:Ins):Except (Int×Int) (Nat×Ins):=bnd (refV s l n {x with kind:=7}) fun n x=>bnd (namesV s l n) fun n o=>.ok (n,{x with args:=o})
def releaseV (s:ByteArray) (l:List Tok) (n:Nat) (x:Ins):Except (Int×Int) (Nat×Ins):=bnd (oneV7 s l n {x with kind:=10}) fun n x=>refV s l n x
def cellV (k:Int) (s:ByteArray) (l:List Tok) (n:Nat) (x:Ins):Except (Int×Int) (Nat×Ins):=bnd (refV s l n {x with kind:=k}) fun n x=>oneV7 s l n x
section
variable (s:ByteArray) (l:List Tok) (n c:Nat) (hl:Lies s l) (hn:n≤l.length) (y:Ins)
include hl hn in
theorem val2_spec:ProcO PG 209 2 [.ptr 0 0, .ptr 1 0] (HX s l n c y) (outI s l c (constV s l n y)):=by
 have hll:=hl.2.1
 refine ProcO.mk (cfgF 12 2) tysOK [0,1,2,3] Tryz.func209 rfl (by kernel_rfl) rfl rfl (okI (by omega) _) ?_
 intro C x
 have h1:=number7_spec s l n c hl (by omega)
 cases e1:isV l n 3 with
 | false=>
  rw[e1,if_neg (by simp)] at h1
  refine x.die [0] rfl tR rfl h1 ⟨⟨rfl,rfl⟩,tR⟩ rfl ⟨⟨rfl,veq0_d rfl,rfl,rfl,tR⟩,tR⟩ ?_
  simp only[constV,refV,oneV7,nmV,bnd,e1,if_true,Bool.false_eq_true,if_false]
  exact⟨rfl,rfl⟩
 | true=>
  rw[e1,if_pos rfl] at h1
  have l1:=isV_lt e1
  refine x.call [0] rfl tR rfl h1 rfl ⟨⟨rfl,rfl⟩,tR⟩ ⟨⟨rfl,veq0_d rfl,rfl,rfl,tR⟩,tR⟩ ?_
  refine x.exit rfl tR ?_
  simp only[constV,refV,oneV7,nmV,bnd,e1,if_true,Bool.false_eq_true,if_false]
  exact⟨.inl rfl,tR,⟨⟨rfl,veq0_d rfl,rfl,rfl,tR⟩,⟨rfl,rfl,rfl,rfl,rfl,rfl,rfl,rfl,rfl,tR⟩,⟨rfl,rfl,rfl,fun _ _=>rfl⟩,⟨rfl,rfl,rfl,fun _ _=>rfl⟩,tR⟩,rfl⟩
include hl hn in
theorem val3_spec:ProcO PG 210 2 [.ptr 0 0, .ptr 1 0] (HX s l n c y) (outI s l c (inputV s l n y)):=by
 have hll:=hl.2.1
 refine ProcO.mk (cfgF 12 2) tysOK [0,1,2,3] Tryz.func210 rfl (by kernel_rfl) rfl rfl (okI (by omega) _) ?_
 intro C x
 have h1:=name7_spec s l n c hl (by omega)
 cases e1:isV l n 1 with
 | false=>
  rw[e1,if_neg (by simp)] at h1
  refine x.die [0] rfl tR rfl h1 ⟨⟨rfl,rfl⟩,tR⟩ rfl ⟨⟨rfl,veq0_d rfl,rfl,rfl,tR⟩,tR⟩ ?_
  simp only[inputV,refV,oneV7,nmV,bnd,e1,if_true,Bool.false_eq_true,if_false]
  exact⟨rfl,rfl⟩
 | true=>
  rw[e1,if_pos rfl] at h1
  have l1:=isV_lt e1
  refine x.call [0] rfl tR rfl h1 rfl ⟨⟨rfl,rfl⟩,tR⟩ ⟨⟨rfl,veq0_d rfl,rfl,rfl,tR⟩,tR⟩ ?_
  refine x.exit rfl tR ?_
  simp only[inputV,refV,oneV7,nmV,bnd,e1,if_true,Bool.false_eq_true,if_false]
  exact⟨.inl rfl,tR,⟨⟨rfl,veq0_d rfl,rfl,rfl,tR⟩,⟨rfl,rfl,rfl,rfl,rfl,rfl,rfl,rfl,rfl,tR⟩,⟨rfl,rfl,rfl,fun _ _=>rfl⟩,⟨rfl,rfl,rfl,fun _ _=>rfl⟩,tR⟩,rfl⟩
include hl hn in
theorem val4_spec:ProcO PG 211 2 [.ptr 0 0, .ptr 1 0] (HX s l n c y) (outI s l c (callV s l n y)):=by
 have hll:=hl.2.1
 refine ProcO.mk (cfgF 17 2) tysOK [0,1,4,3] Tryz.func211 rfl (by kernel_rfl) rfl rfl (okI (by omega) _) ?_
 intro C x
 have h1:=name7_spec s l n c hl (by omega)
 cases e1:isV l n 1 with
 | false=>
  rw[e1,if_neg (by simp)] at h1
  refine x.die [0] rfl tR rfl h1 ⟨⟨rfl,rfl⟩,tR⟩ rfl ⟨⟨rfl,veq0_d rfl,rfl,rfl,tR⟩,tR⟩ ?_
  simp only[callV,refV,oneV7,nmV,bnd,e1,if_true,Bool.false_eq_true,if_false]
  exact⟨rfl,rfl⟩
 | true=>
  rw[e1,if_pos rfl] at h1
  have l1:=isV_lt e1
  refine x.call [0] rfl tR rfl h1 rfl ⟨⟨rfl,rfl⟩,tR⟩ ⟨⟨rfl,veq0_d rfl,rfl,rfl,tR⟩,tR⟩ ?_
  have h2:=names7_spec s l (n+1) c hl (by omega)
  obtain⟨R,e2⟩:∃R,namesV s l (n+1)=R:=⟨_,rfl⟩
  rw[e2] at h2
  rcases R with⟨a,b⟩ | ⟨n',o⟩
  ·refine x.die [0] rfl tR rfl h2 ⟨⟨rfl,rfl⟩,tR⟩ rfl ⟨⟨rfl,veq0_d rfl,rfl,rfl,tR⟩,tR⟩ ?_
   simp only[callV,refV,oneV7,nmV,bnd,e1,e2,if_true,Bool.false_eq_true,if_false]
   exact⟨rfl,rfl⟩
  ·refine x.call [0] rfl tR rfl h2 rfl ⟨⟨rfl,rfl⟩,tR⟩ ⟨⟨rfl,veq0_d rfl,rfl,rfl,tR⟩,tR⟩ ?_
   refine x.exit rfl tR ?_
   simp only[callV,refV,oneV7,nmV,bnd,e1,e2,if_true,Bool.false_eq_true,if_false]
   exact⟨.inl rfl,tR,⟨⟨rfl,veq0_d rfl,rfl,rfl,tR⟩,⟨rfl,rfl,rfl,rfl,rfl,rfl,rfl,rfl,rfl,tR⟩,⟨rfl,rfl,rfl,fun _ _=>rfl⟩,⟨rfl,rfl,rfl,fun _ _=>rfl⟩,tR⟩,rfl⟩
include hl hn in
theorem val5_spec:ProcO PG 212 2 [.ptr 0 0, .ptr 1 0] (HX s l n c y) (outI s l c (releaseV s l n y)):=by
 have hll:=hl.2.1
 refine ProcO.mk (cfgF 18 2) tysOK [0,1,4,3] Tryz.func212 rfl (by kernel_rfl) rfl rfl (okI (by omega) _) ?_
 intro C x
 have h1:=name7_spec s l n c hl (by omega)
 cases e1:isV l n 1 with
 | false=>
  rw[e1,if_neg (by simp)] at h1
  refine x.die [0] rfl tR rfl h1 ⟨⟨rfl,rfl⟩,tR⟩ rfl ⟨⟨rfl,veq0_d rfl,rfl,rfl,tR⟩,tR⟩ ?_
  simp only[releaseV,refV,oneV7,nmV,bnd,e1,if_true,Bool.false_eq_true,if_false]
  exact⟨rfl,rfl⟩
 | true=>
  rw[e1,if_pos rfl] at h1
  have l1:=isV_lt e1
  refine x.call [0] rfl tR rfl h1 rfl ⟨⟨rfl,rfl⟩,tR⟩ ⟨⟨rfl,veq0_d rfl,rfl,rfl,tR⟩,tR⟩ ?_
  have h2:=name7_spec s l (n+1) c hl (by omega)
  cases e2:isV l (n+1) 1 with
  | false=>
   rw[e2,if_neg (by simp)] at h2
   refine x.die [0] rfl tR rfl h2 ⟨⟨rfl,rfl⟩,tR⟩ rfl ⟨⟨rfl,veq0_d rfl,rfl,rfl,tR⟩,tR⟩ ?_
   simp only[releaseV,refV,oneV7,nmV,bnd,e1,e2,if_true,Bool.false_eq_true,if_false]
   exact⟨rfl,rfl⟩
  | true=>
   rw[e2,if_pos rfl] at h2
   have l2:=isV_lt e2
   refine x.call [0] rfl tR rfl h2 rfl ⟨⟨rfl,rfl⟩,tR⟩ ⟨⟨rfl,veq0_d rfl,rfl,rfl,tR⟩,tR⟩ ?_
   refine x.exit rfl tR ?_
   simp only[releaseV,refV,oneV7,nmV,bnd,e1,e2,if_true,Bool.false_eq_true,if_false]
   exact⟨.inl rfl,tR,⟨⟨rfl,veq0_d rfl,rfl,rfl,tR⟩,⟨rfl,rfl,rfl,rfl,rfl,rfl,rfl,rfl,rfl,tR⟩,⟨rfl,rfl,rfl,fun j hj=>by rw[show j=0 by omega];rfl⟩,⟨rfl,rfl,rfl,fun _ _=>rfl⟩,tR⟩,rfl⟩
abbrev HK (s:ByteArray) (l:List Tok) (n c:Nat) (x:Ins) (k:Int):List Ch:=[pC s l n c,iC x,strC x.args,strC x.frm, .box [.d (.int .u8 k)]]
def outK (s:ByteArray) (l:List Tok) (c:Nat) (k:Int):Except (Int×Int) (Nat×Ins)->Out
 | .ok (n,x)=>.ret (.tup []) (HK s l n c x k)
 | .error (a,e)=>dieO a e
include hl hn in
theorem cell_spec (k:Int):ProcO PG 208 2 [.ptr 0 0, .ptr 1 0, .ptr 4 0] (HK s l n c y k) (outK s l c k (cellV k s l n y)):=by
 have hll:=hl.2.1
 refine ProcO.mk (cfgF 20 2) tysOK [0,1,5,3,4] Tryz.func208 rfl (by kernel_rfl) rfl rfl (by rcases cellV k s l n y with⟨a,e⟩ | ⟨n',x'⟩<;>rfl) ?_
 intro C x
 have h1:=name7_spec s l n c hl (by omega)
 cases e1:isV l n 1 with
 | false=>
  rw[e1,if_neg (by simp)] at h1
  refine x.die [0] rfl tR rfl h1 ⟨⟨rfl,rfl⟩,tR⟩ rfl ⟨⟨rfl,veq0_d rfl,rfl,rfl,tR⟩,tR⟩ ?_
  simp only[cellV,refV,oneV7,nmV,bnd,e1,if_true,Bool.false_eq_true,if_false]
  exact⟨rfl,rfl⟩
 | true=>
  rw[e1,if_pos rfl] at h1
  have l1:=isV_lt e1
  refine x.call [0] rfl tR rfl h1 rfl ⟨⟨rfl,rfl⟩,tR⟩ ⟨⟨rfl,veq0_d rfl,rfl,rfl,tR⟩,tR⟩ ?_
  have h2:=name7_spec s l (n+1) c hl (by omega)
  cases e2:isV l (n+1) 1 with
  | false=>
   rw[e2,if_neg (by simp)] at h2
   refine x.die [0] rfl tR rfl h2 ⟨⟨rfl,rfl⟩,tR⟩ rfl ⟨⟨rfl,veq0_d rfl,rfl,rfl,tR⟩,tR⟩ ?_
   simp only[cellV,refV,oneV7,nmV,bnd,e1,e2,if_true,Bool.false_eq_true,if_false]
   exact⟨rfl,rfl⟩
  | true=>
   rw[e2,if_pos rfl] at h2
   have l2:=isV_lt e2
   refine x.call [0] rfl tR rfl h2 rfl ⟨⟨rfl,rfl⟩,tR⟩ ⟨⟨rfl,veq0_d rfl,rfl,rfl,tR⟩,tR⟩ ?_
   refine x.exit rfl tR ?_
   simp only[cellV,refV,oneV7,nmV,bnd,e1,e2,if_true,Bool.false_eq_true,if_false]
   exact⟨.inl rfl,tR,⟨⟨rfl,veq0_d rfl,rfl,rfl,tR⟩,⟨rfl,rfl,rfl,rfl,rfl,rfl,rfl,rfl,rfl,tR⟩,⟨rfl,rfl,rfl,fun j hj=>by rw[show j=0 by omega];rfl⟩,⟨rfl,rfl,rfl,fun _ _=>rfl⟩,⟨rfl,tR⟩,tR⟩,rfl⟩
end
def actsT:List (Key×V):=[(.inl [115,116,111,114,101], .fn 198 []),(.inl [111,117,116,112,117,116], .fn 199 []),(.inl [106,117,109,112], .fn 200 []),(.inl [98,114,97,110,99,104], .fn 201 []),(.inl [114,101,116,117,114,110], .fn 202 [])]
theorem acts_spec:Pure PG 180 [] (.own 0) [.tbl actsT]:=by
 refine Proc.mk (cfg 3) tysOK [0] Tryz.func180 rfl (by kernel_rfl) rfl rfl rfl ?_
 intro C x
 refine x.exit rfl ?_ ?_
 ·simp only[AllP,newKey]
  decide
 ·exact⟨.inr rfl,rfl,⟨⟨rfl,rfl,rfl,rfl,rfl,rfl,rfl,rfl,rfl,rfl,tR⟩,tR⟩,rfl⟩
theorem cellf_spec (k:Int):Pure PG 207 [.d (.int .u8 k)] (.fn 208 [.ptr 0 0]) [.box [.d (.int .u8 k)]]:=by
 refine Proc.mk (cfg 4) tysOK [0] Tryz.func207 rfl (by kernel_rfl) rfl rfl rfl ?_
 intro C x
 refine x.exit rfl tR ?_
 exact⟨.inr rfl,rfl,⟨⟨rfl,tR⟩,tR⟩,rfl⟩
def valsT:List (Key×V):=[(.inl [99,111,110,115,116], .fn 209 []),(.inl [108,111,97,100], .fn 208 [.ptr 1 0]),(.inl [119,114,97,112], .fn 208 [.ptr 2 0]),(.inl [105,110,112,117,116], .fn 210 []),(.inl [99,97,108,108], .fn 211 []),(.inl [114,101,108,101,97,115,101], .fn 212 []),(.inl [112,104,105], .fn 213 [])]
theorem values_spec:Pure PG 204 [] (.own 0) [.tbl valsT, .box [.d (.int .u8 4)], .box [.d (.int .u8 5)]]:=by
 refine Proc.mk (cfg 8) tysOK [0,1,2] Tryz.func204 rfl (by kernel_rfl) rfl rfl rfl ?_
 intro C x
 refine x.call [] rfl tR rfl (cellf_spec 4) rfl ⟨rfl,tR⟩ tR ?_
 refine x.call [] rfl ?_ rfl (cellf_spec 5) rfl ⟨rfl,tR⟩ tR ?_
 ·simp only[AllP,List.map,newKey]
  decide
 refine x.exit rfl ?_ ?_
 ·simp only[AllP,List.map,newKey]
  decide
 ·exact⟨.inr rfl,rfl,⟨⟨rfl,rfl,rfl,rfl,rfl,rfl,rfl,rfl,rfl,rfl,rfl,rfl,rfl,rfl,tR⟩,⟨rfl,tR⟩,⟨rfl,tR⟩,tR⟩,rfl⟩
theorem names_at:GlobAt PG.env 3 13 (fun j=>.str (opAt j)):=
 ⟨_, .tail _ (.tail _ (.head _)),fun j hj=>rfl⟩
def opF (b:List UInt8):Nat->Nat->Nat
 | 0,_=>0
 | k+1,i=>if 0<i∧opNames.getD i []=b then i else opF b k (i+1)
def opV (s:ByteArray):Nat:=opF s.data.toList 13 0
structure OW (s:ByteArray) where
 i:Nat
 hi:i≤13
 same:opF s.data.toList (13-i) i=opV s
theorem op_spec (s:ByteArray):Pure PG 203 [vs s] (.tup [.d (.int .u8 (opV s:Int)),vb (decide (opV s≠0))]) []:=by
 refine Proc.mk (cfg 20) tysOK [] Tryz.func203 rfl (by kernel_rfl) rfl rfl rfl ?_
 intro C x
 refine x.loop (α:=OW s) (fun y=>⟨[(0,vs s),(5,vi (y.i:Int))],[],0⟩) (fun y=>13-y.i) ⟨0,by omega,rfl⟩ rfl tR ⟨⟨rfl,rfl,tR⟩,tR,rfl⟩ (fun y=>?_)
 obtain⟨i,hi,same⟩:=y
 change Go C _ ⟨[(0,vs s),(5,vi (i:Int))],[],0⟩ _
 refine x.cond rfl tR (fun h=>?_) (fun h=>?_)
 ·have h:(i:Int)<13:=of_decide_eq_true h
  refine x.globG (fun j=>.str (opAt j)) rfl tR rfl names_at (fun _=>⟨Int.natCast_nonneg _,h⟩) ?_
  have hk:13-i=(12-i)+1:=by omega
  rw[hk,opF] at same
  have e0:(opAt i).data.toList=opNames.getD i []:=rfl
  refine x.cond rfl tR (fun h2=>?_) (fun h2=>?_)
  ·have h2:(decide ((0:Int)<(i:Int))&&decide ((opAt (i:Int).toNat).data.toList=s.data.toList))=true:=h2
   simp only[Bool.and_eq_true,decide_eq_true_eq,Int.toNat_natCast,e0] at h2
   rw[if_pos ⟨by omega,h2.2⟩] at same
   refine x.exit rfl tR ?_
   rw[←same]
   refine⟨.inr rfl,⟨?_,?_,tR⟩,tR,rfl⟩
   ·refine veq0_d ?_
    rw[IntKind.wrap_u8]
    congr 1
    omega
   ·show VEq0 (vb true) (vb (decide (i≠0)))
    rw[decide_eq_true (by omega)];rfl
  ·have h2:(decide ((0:Int)<(i:Int))&&decide ((opAt (i:Int).toNat).data.toList=s.data.toList))=false:=h2
   rw[Int.toNat_natCast,e0] at h2
   rw[if_neg (fun hh=>by
    rw[decide_eq_true (by omega:(0:Int)<(i:Int)),decide_eq_true hh.2] at h2
    cases h2)] at same
   refine x.back rfl ?_ ⟨⟨i+1,by omega,by rw[show 13-(i+1)=12-i by omega];exact same⟩,by show 13-(i+1)<13-i;omega,⟨rfl,?_,tR⟩,tR,rfl⟩
   ·simp only[AllP,inI64];omega
   ·show VEq0 (vi ((i:Int)+1)) (vi ((i+1:Nat):Int));rw[Int.natCast_add];rfl
 ·have h:¬(i:Int)<13:=of_decide_eq_false h
  have:i=13:=by omega
  subst this
  refine x.exit rfl tR ?_
  rw[←same]
  exact⟨.inr rfl,⟨rfl,rfl,tR⟩,tR,rfl⟩
structure Arr where
 name:ByteArray
 size:Int
 level:ByteArray
 at_:Int
abbrev aV (x:Arr):V:=.agg [vs x.name,vi x.size,vs x.level,vi x.at_]
def arrV (s:ByteArray) (l:List Tok) (n:Nat):Except (Int×Int) (Nat×Arr):=
 bnd (nmV s l (n+1)) fun n1 name=>
  if isV l n1 3=true then
   if (numV (txV s l n1)).1<1∨256<(numV (txV s l n1)).1 then .error (atV s l n1,12)
   else bnd (nmV s l (n1+1)) fun n2 lv=>.ok (n2,⟨name,(numV (txV s l n1)).1,lv,atV s l n⟩)
  else .error (atV s l n1,7)
def arrO (s:ByteArray) (l:List Tok) (c:Nat):Except (Int×Int) (Nat×Arr)->Out
 | .ok (n,x)=>.ret (aV x) [pC s l n c]
 | .error (a,e)=>dieO a e
section
variable (s:ByteArray) (l:List Tok) (n c:Nat) (hl:Lies s l) (hn:n<l.length)
include hl hn in
theorem array7_spec:ProcO PG 46 1 [.ptr 0 0] [pC s l n c] (arrO s l c (arrV s l n)):=by
 have hll:=hl.2.1
 refine ProcO.mk (cfgF 42 1) tysOK [0] Tryz.func46 rfl (by kernel_rfl) rfl rfl (by rcases arrV s l n with⟨a,e⟩ | ⟨n',x'⟩<;>rfl) ?_
 intro C x
 refine x.call [0] rfl tR rfl (at_spec s l n c (by omega)) rfl ⟨⟨rfl,rfl⟩,tR⟩ ⟨⟨rfl,veq0_d rfl,rfl,rfl,tR⟩,tR⟩ ?_
 have ei:VEq0 (vi ((n:Int)+1)) (vi ((n+1:Nat):Int)):=by rw[Int.natCast_add];rfl
 have h1:=name7_spec s l (n+1) c hl (by omega)
 cases e1:isV l (n+1) 1 with
 | false=>
  rw[e1,if_neg (by simp)] at h1
  refine x.die [0] rfl (by simp only[AllP,inI64];omega) rfl h1 ⟨⟨rfl,rfl⟩,tR⟩ rfl ⟨⟨rfl,veq0_d rfl,ei,rfl,tR⟩,tR⟩ ?_
  simp only[arrV,nmV,bnd,e1,if_true,Bool.false_eq_true,if_false]
  exact⟨rfl,rfl⟩
 | true=>
  rw[e1,if_pos rfl] at h1
  have l1:=isV_lt e1
  refine x.call [0] rfl (by simp only[AllP,inI64];omega) rfl h1 rfl ⟨⟨rfl,rfl⟩,tR⟩ ⟨⟨rfl,veq0_d rfl,ei,rfl,tR⟩,tR⟩ ?_
  refine x.call [0] rfl tR rfl (is_spec s l (n+1+1) c 3) rfl ⟨⟨rfl,rfl⟩,rfl,tR⟩ ⟨⟨rfl,veq0_d rfl,rfl,rfl,tR⟩,tR⟩ ?_
  have h2:=number7_spec s l (n+1+1) c hl (by omega)
  refine x.cond rfl tR (fun e2=>?_) (fun e2=>?_)
  ·have e2:isV l (n+1+1) 3=true:=e2
   have l2:=isV_lt e2
   rw[e2,if_pos rfl] at h2
   refine x.call [0] rfl tR rfl (text_spec s l (n+1+1) c hl (by omega) 0 (by omega)) rfl ⟨⟨rfl,rfl⟩,rfl,tR⟩ ⟨⟨rfl,veq0_d rfl,rfl,rfl,tR⟩,tR⟩ ?_
   refine x.pure rfl tR rfl (number_spec (txV s l (n+1+1))) ⟨rfl,tR⟩ ?_
   refine x.cond rfl tR (fun e3=>?_) (fun e3=>?_)
   ·have e3:(decide ((numV (txV s l (n+1+1))).1<1)||decide (256<(numV (txV s l (n+1+1))).1))=true:=e3
    simp only[Bool.or_eq_true,decide_eq_true_eq] at e3
    refine x.die [0] rfl tR rfl (fail_spec s l (n+1+1) c (by omega) 12) ⟨⟨rfl,rfl⟩,rfl,tR⟩ rfl ⟨⟨rfl,veq0_d rfl,rfl,rfl,tR⟩,tR⟩ ?_
    simp only[arrV,nmV,bnd,e1,e2,if_true]
    rw[if_pos e3]
    exact⟨rfl,rfl⟩
   ·have e3:(decide ((numV (txV s l (n+1+1))).1<1)||decide (256<(numV (txV s l (n+1+1))).1))=false:=e3
    have e3':¬((numV (txV s l (n+1+1))).1<1∨256<(numV (txV s l (n+1+1))).1):=by simpa using e3
    refine x.call [0] rfl tR rfl h2 rfl ⟨⟨rfl,rfl⟩,tR⟩ ⟨⟨rfl,veq0_d rfl,rfl,rfl,tR⟩,tR⟩ ?_
    have h4:=name7_spec s l (n+1+1+1) c hl (by omega)
    cases e4:isV l (n+1+1+1) 1 with
    | false=>
     rw[e4,if_neg (by simp)] at h4
     refine x.die [0] rfl tR rfl h4 ⟨⟨rfl,rfl⟩,tR⟩ rfl ⟨⟨rfl,veq0_d rfl,rfl,rfl,tR⟩,tR⟩ ?_
     simp only[arrV,nmV,bnd,e1,e2,e4,if_true,Bool.false_eq_true,if_false]
     rw[if_neg e3']
     exact⟨rfl,rfl⟩
    | true=>
     rw[e4,if_pos rfl] at h4
     refine x.call [0] rfl tR rfl h4 rfl ⟨⟨rfl,rfl⟩,tR⟩ ⟨⟨rfl,veq0_d rfl,rfl,rfl,tR⟩,tR⟩ ?_
     refine x.exit rfl tR ?_
     simp only[arrV,nmV,bnd,e1,e2,e4,if_true]
     rw[if_neg e3']
     exact⟨.inr rfl,⟨rfl,rfl,rfl,rfl,tR⟩,⟨⟨rfl,veq0_d rfl,rfl,rfl,tR⟩,tR⟩,rfl⟩
  ·have e2:isV l (n+1+1) 3=false:=e2
   rw[e2,if_neg (by simp)] at h2
   refine x.die [0] rfl tR rfl h2 ⟨⟨rfl,rfl⟩,tR⟩ rfl ⟨⟨rfl,veq0_d rfl,rfl,rfl,tR⟩,tR⟩ ?_
   simp only[arrV,nmV,bnd,e1,e2,if_true,Bool.false_eq_true,if_false]
   exact⟨rfl,rfl⟩
end
abbrev iC4 (x:Ins):Ch:=.box [.d (.int .u8 x.kind), .d (.int .u8 x.op),vs x.dst,vs x.ref,vs x.alt, .own 4, .own 5,vi x.num,vi x.at_]
abbrev HP4 (s:ByteArray) (l:List Tok) (n c:Nat) (x:Ins):List Ch:=[pC s l n c,iC4 x, .box [.ptr 1 0], .box [.ptr 0 0],strC x.args,strC x.frm]
def needV (s:ByteArray) (l:List Tok) (n:Nat) (b:UInt8):Except (Int×Int) (Nat×Unit):=if (txV s l n).data.toList=[b] then .ok (n+1,()) else .error (atV s l n,7)
def pairV (s:ByteArray) (l:List Tok) (n:Nat) (x:Ins):Except (Int×Int) (Nat×Ins):=
 bnd (nmV s l n) fun n f=>bnd (needV s l n 58) fun n _=>bnd (nmV s l n) fun n a=>.ok (n,{x with frm:=x.frm++[f],args:=x.args++[a]})
def outP (s:ByteArray) (l:List Tok) (c:Nat):Except (Int×Int) (Nat×Ins)->Out
 | .ok (n,x)=>.ret (.tup []) (HP4 s l n c x)
 | .error (a,e)=>dieO a e
section
variable (s:ByteArray) (l:List Tok) (n c:Nat) (hl:Lies s l) (hn:n≤l.length) (y:Ins) (hy:y.args.length≤1000) (hy2:y.frm.length≤1000)
include hl hn hy hy2 in
theorem pair_spec:ProcO PG 214 4 [.ptr 2 0, .ptr 3 0] (HP4 s l n c y) (outP s l c (pairV s l n y)):=by
 have hll:=hl.2.1
 refine ProcO.mk (cfgF 26 4) tysOK [0,1,2,3,4,5] Tryz.func214 rfl (by kernel_rfl) rfl rfl (by rcases pairV s l n y with⟨a,e⟩ | ⟨n',x'⟩<;>rfl) ?_
 intro C x
 have h1:=name7_spec s l n c hl (by omega)
 cases e1:isV l n 1 with
 | false=>
  rw[e1,if_neg (by simp)] at h1
  refine x.draw2 [0,1,4,5] 4 [0,5] [0] [1,2,3,4,5] [6,7] [8,9,10,11] rfl tR mixedP (by kernel_rfl) RetO.quiet rfl rfl tR rfl tR (fun C1 C2 x1 x2=>?_)
  refine x1.die [0] rfl tR rfl h1 ⟨⟨rfl,rfl⟩,tR⟩ rfl ⟨⟨rfl,veq0_d rfl,rfl,rfl,tR⟩,tR⟩ ⟨⟨_,rfl⟩,rfl,⟨_,rfl⟩,rfl,?_⟩
  simp only[pairV,nmV,bnd,e1,if_true,Bool.false_eq_true,if_false]
  exact⟨rfl,rfl⟩
 | true=>
  rw[e1,if_pos rfl] at h1
  have l1:=isV_lt e1
  refine x.draw2 [0,1,4,5] 4 [0,5] [0] [1,2,3,4,5] [6,7] [8,9,10,11] rfl tR mixedP (by kernel_rfl) RetO.quiet rfl rfl tR rfl tR (fun C1 C2 x1 x2=>?_)
  refine x1.call [0] rfl tR rfl h1 rfl ⟨⟨rfl,rfl⟩,tR⟩ ⟨⟨rfl,veq0_d rfl,rfl,rfl,tR⟩,tR⟩ ?_
  refine x1.back rfl tR ?_
  refine x1.back rfl tR ?_
  refine x2.back rfl (by simp only[AllP,big];omega) ?_
  refine x2.back rfl tR ?_
  refine x2.back rfl tR ?_
  refine x2.back rfl tR ?_
  have h2:=need_spec s l (n+1) c hl (by omega) ⟨#[58]⟩
  by_cases e2:(txV s l (n+1)).data.toList=[58]
  ·rw[if_pos e2] at h2
   have l2:=tx_lt e2
   refine x.call [0] rfl tR rfl h2 rfl ⟨⟨rfl,rfl⟩,rfl,tR⟩ ⟨⟨rfl,veq0_d rfl,rfl,rfl,tR⟩,tR⟩ ?_
   have h3:=name7_spec s l (n+1+1) c hl (by omega)
   cases e3:isV l (n+1+1) 1 with
   | false=>
    rw[e3,if_neg (by simp)] at h3
    refine x.draw2 [0,1,4,5,6] 4 [0] [0] [1,2,3,4,5] [6,7] [8,9,10,11] rfl tR mixedP (by kernel_rfl) RetO.quiet rfl rfl tR rfl tR (fun C1 C2 x1 x2=>?_)
    refine x1.die [0] rfl tR rfl h3 ⟨⟨rfl,rfl⟩,tR⟩ rfl ⟨⟨rfl,veq0_d rfl,rfl,rfl,tR⟩,tR⟩ ⟨⟨_,rfl⟩,rfl,⟨_,rfl⟩,rfl,?_⟩
    simp only[pairV,needV,nmV,bnd,e1,e2,e3,if_true,Bool.false_eq_true,if_false]
    exact⟨rfl,rfl⟩
   | true=>
    rw[e3,if_pos rfl] at h3
    refine x.draw2 [0,1,4,5,6] 4 [0] [0] [1,2,3,4,5] [6,7] [8,9,10,11] rfl tR mixedP (by kernel_rfl) RetO.quiet rfl rfl tR rfl tR (fun C1 C2 x1 x2=>?_)
    refine x1.call [0] rfl tR rfl h3 rfl ⟨⟨rfl,rfl⟩,tR⟩ ⟨⟨rfl,veq0_d rfl,rfl,rfl,tR⟩,tR⟩ ?_
    refine x1.back rfl tR ?_
    refine x1.back rfl tR ?_
    refine x2.back rfl (by simp only[AllP,big];omega) ?_
    refine x2.back rfl tR ?_
    refine x2.back rfl tR ?_
    refine x2.back rfl tR ?_
    refine x.exit rfl tR ?_
    simp only[pairV,needV,nmV,bnd,e1,e2,e3,if_true]
    exact⟨.inl rfl,tR,⟨⟨rfl,veq0_d rfl,rfl,rfl,tR⟩,⟨rfl,rfl,rfl,rfl,rfl,rfl,rfl,rfl,rfl,tR⟩,⟨⟨rfl,rfl⟩,tR⟩,⟨⟨rfl,rfl⟩,tR⟩,⟨rfl,rfl,len1 _ _,fun j hj=>app_str _ _ j hj⟩,⟨rfl,rfl,len1 _ _,fun j hj=>app_str _ _ j hj⟩,tR⟩,rfl⟩
  ·rw[if_neg e2] at h2
   refine x.die [0] rfl tR rfl h2 ⟨⟨rfl,rfl⟩,rfl,tR⟩ rfl ⟨⟨rfl,veq0_d rfl,rfl,rfl,tR⟩,tR⟩ ?_
   simp only[pairV,needV,nmV,bnd,e1,e2,if_true,if_false]
   exact⟨rfl,rfl⟩
end
theorem pairV_ok {s:ByteArray} {l:List Tok} {n:Nat} {x:Ins} {n':Nat} {x':Ins} (h:pairV s l n x=.ok (n',x')):n<n'∧n'≤l.length∧isV l n 1=true∧x'.args.length=x.args.length+1∧x'.frm.length=x.frm.length+1:=by
 unfold pairV nmV needV at h
 by_cases e1:isV l n 1=true
 ·simp only[e1,if_true,bnd] at h
  by_cases e2:(txV s l (n+1)).data.toList=[58]
  ·simp only[e2,if_true] at h
   by_cases e3:isV l (n+1+1) 1=true
   ·simp only[e3,if_true,Except.ok.injEq,Prod.mk.injEq] at h
    obtain⟨rfl,rfl⟩:=h
    have:=isV_lt e3
    exact⟨by omega,by omega,e1,by simp,by simp⟩
   ·simp [e3] at h
  ·simp [e2] at h
 ·simp [e1,bnd] at h
def pairsF (s:ByteArray) (l:List Tok):Nat->Nat->Nat->Ins->Except (Int×Int) (Nat×Ins)
 | 0,_,_,_=>.error (0,0)
 | f+1,n,k,x=>
  if isV l n 1=true∧64≤k then .error (atV s l n,3)
  else bnd (pairV s l n x) fun n x=>if (txV s l n).data.toList=[44] then pairsF s l f (n+1) (k+1) x else .ok (n,x)
structure PW (s:ByteArray) (l:List Tok) (R:Except (Int×Int) (Nat×Ins)) where
 f:Nat
 n:Nat
 k:Nat
 x:Ins
 hf:l.length+1≤f+n
 hn:n≤l.length
 hk:k≤64
 ha:x.args.length≤100+k
 hb:x.frm.length≤100+k
 same:pairsF s l f n k x=R
section
variable (s:ByteArray) (l:List Tok) (n c:Nat) (hl:Lies s l) (hn:n≤l.length) (y:Ins) (hy:y.args.length≤100) (hy2:y.frm.length≤100)
include hl hn hy hy2 in
theorem list_pairs:ProcO PG 150 4 [.ptr 0 0,vi 64, .fn 214 [.ptr 2 0, .ptr 3 0]] (HP4 s l n c y) (outP s l c (pairsF s l (l.length+1) n 0 y)):=by
 obtain⟨R,hR⟩:∃R,pairsF s l (l.length+1) n 0 y=R:=⟨_,rfl⟩
 rw[hR]
 have hll:=hl.2.1
 refine ProcO.mk (cfgF 27 4) tysOK [0,1,2,3,4,5] Tryz.func150 rfl (by kernel_rfl) rfl rfl (by rcases R with⟨a,e⟩ | ⟨n,o⟩<;>rfl) ?_
 intro C x
 refine x.loop (α:=PW s l R) (fun y=>⟨[(0, .ptr 0 0),(1,vi 64),(2, .fn 214 [.ptr 2 0, .ptr 3 0]),(6,vi (y.k:Int))],[(0,pC s l y.n c),(1,iC4 y.x),(2, .box [.ptr 1 0]),(3, .box [.ptr 0 0]),(4,strC y.x.args),(5,strC y.x.frm)],6⟩) (fun y=>y.f) ⟨l.length+1,n,0,y,by omega,by omega,by omega,by omega,by omega,hR⟩ rfl tR ⟨⟨⟨rfl,rfl⟩,rfl,rfl,rfl,tR⟩,⟨⟨rfl,veq0_d rfl,rfl,rfl,tR⟩,⟨rfl,rfl,rfl,rfl,rfl,rfl,rfl,rfl,rfl,tR⟩,⟨⟨rfl,rfl⟩,tR⟩,⟨⟨rfl,rfl⟩,tR⟩,⟨rfl,rfl,rfl,fun _ _=>rfl⟩,⟨rfl,rfl,rfl,fun _ _=>rfl⟩,tR⟩,rfl⟩ (fun y=>?_)
 obtain⟨f,n,k,y,hf,hn,hk,ha,hb,same⟩:=y
 change Go C _ ⟨[(0, .ptr 0 0),(1,vi 64),(2, .fn 214 [.ptr 2 0, .ptr 3 0]),(6,vi (k:Int))],[(0,pC s l n c),(1,iC4 y),(2, .box [.ptr 1 0]),(3, .box [.ptr 0 0]),(4,strC y.args),(5,strC y.frm)],6⟩ _
 obtain⟨f,rfl⟩:∃f',f=f'+1:=⟨f-1,by omega⟩
 rw[pairsF] at same
 refine x.call [0] rfl tR rfl (is_spec s l n c 1) rfl ⟨⟨rfl,rfl⟩,rfl,tR⟩ ⟨⟨rfl,veq0_d rfl,rfl,rfl,tR⟩,tR⟩ ?_
 have h1:=pair_spec s l n c hl hn y (by omega) (by omega)
 obtain⟨V,hV⟩:∃V,pairV s l n y=V:=⟨_,rfl⟩
 have bad:isV l n 1=false->V=.error (atV s l n,7):=fun e=>by rw[←hV,pairV,nmV,e];rfl
 rw[hV] at h1 same
 refine x.cond rfl tR (fun h=>?_) (fun h=>?_)
 ·have h:isV l n 1=true:=h
  have h2:=room_spec s l n c (by omega) (k:Int) 64
  by_cases h3:64≤k
  ·rw[if_pos ⟨h,h3⟩] at same
   rw[if_pos (by omega)] at h2
   exact x.die [0] rfl tR rfl h2 ⟨⟨rfl,rfl⟩,rfl,rfl,tR⟩ rfl ⟨⟨rfl,veq0_d rfl,rfl,rfl,tR⟩,tR⟩ (by rw[←same];exact⟨rfl,rfl⟩)
  ·rw[if_neg (fun hh=>h3 hh.2)] at same
   rw[if_neg (by omega)] at h2
   refine x.call [0] rfl tR rfl h2 rfl ⟨⟨rfl,rfl⟩,rfl,rfl,tR⟩ ⟨⟨rfl,veq0_d rfl,rfl,rfl,tR⟩,tR⟩ ?_
   rcases V with⟨a,e⟩ | ⟨n',y'⟩
   ·exact x.die [0,1,2,3,4,5] rfl tR rfl h1 ⟨⟨rfl,rfl⟩,⟨rfl,rfl⟩,tR⟩ rfl ⟨⟨rfl,veq0_d rfl,rfl,rfl,tR⟩,⟨rfl,rfl,rfl,rfl,rfl,rfl,rfl,rfl,rfl,tR⟩,⟨⟨rfl,rfl⟩,tR⟩,⟨⟨rfl,rfl⟩,tR⟩,⟨rfl,rfl,rfl,fun _ _=>rfl⟩,⟨rfl,rfl,rfl,fun _ _=>rfl⟩,tR⟩ (by rw[←same];exact⟨rfl,rfl⟩)
   ·obtain⟨p1,p2,_,p4,p5⟩:=pairV_ok hV
    simp only[bnd] at same
    refine x.call [0,1,2,3,4,5] rfl tR rfl h1 rfl ⟨⟨rfl,rfl⟩,⟨rfl,rfl⟩,tR⟩ ⟨⟨rfl,veq0_d rfl,rfl,rfl,tR⟩,⟨rfl,rfl,rfl,rfl,rfl,rfl,rfl,rfl,rfl,tR⟩,⟨⟨rfl,rfl⟩,tR⟩,⟨⟨rfl,rfl⟩,tR⟩,⟨rfl,rfl,rfl,fun _ _=>rfl⟩,⟨rfl,rfl,rfl,fun _ _=>rfl⟩,tR⟩ ?_
    refine x.call [0] rfl tR rfl (text_spec s l n' c hl (by omega) 0 (by omega)) rfl ⟨⟨rfl,rfl⟩,rfl,tR⟩ ⟨⟨rfl,veq0_d rfl,rfl,rfl,tR⟩,tR⟩ ?_
    refine x.cond rfl tR (fun h4=>?_) (fun h4=>?_)
    ·have h4:(!decide ((txV s l n').data.toList=[44]))=true:=h4
     rw[if_neg (by simpa using h4)] at same
     refine x.exit rfl tR ?_
     rw[←same]
     exact⟨.inr rfl,tR,⟨⟨rfl,veq0_d rfl,rfl,rfl,tR⟩,⟨rfl,rfl,rfl,rfl,rfl,rfl,rfl,rfl,rfl,tR⟩,⟨⟨rfl,rfl⟩,tR⟩,⟨⟨rfl,rfl⟩,tR⟩,⟨rfl,rfl,rfl,fun _ _=>rfl⟩,⟨rfl,rfl,rfl,fun _ _=>rfl⟩,tR⟩,rfl⟩
    ·have h4:(!decide ((txV s l n').data.toList=[44]))=false:=h4
     have h5:(txV s l n').data.toList=[44]:=by simpa using h4
     have h6:=tx_lt h5
     rw[if_pos h5] at same
     refine x.back rfl ?_ ⟨⟨f,n'+1,k+1,y',by omega,by omega,by omega,by omega,by omega,same⟩,by show f<f+1;omega,⟨⟨rfl,rfl⟩,rfl,rfl,?_,tR⟩,⟨⟨rfl,veq0_d rfl,?_,rfl,tR⟩,⟨rfl,rfl,rfl,rfl,rfl,rfl,rfl,rfl,rfl,tR⟩,⟨⟨rfl,rfl⟩,tR⟩,⟨⟨rfl,rfl⟩,tR⟩,⟨rfl,rfl,rfl,fun _ _=>rfl⟩,⟨rfl,rfl,rfl,fun _ _=>rfl⟩,tR⟩,rfl⟩
     ·simp only[AllP,inI64];omega
     ·show VEq0 (vi ((k:Int)+1)) (vi ((k+1:Nat):Int));rw[Int.natCast_add];rfl
     ·show VEq0 (vi ((n':Int)+1)) (vi ((n'+1:Nat):Int));rw[Int.natCast_add];rfl
 ·have h:isV l n 1=false:=h
  have hb:=bad h
  subst hb
  rw[if_neg (fun hh=>by rw[h] at hh;exact absurd hh.1 (by simp))] at same
  exact x.die [0,1,2,3,4,5] rfl tR rfl h1 ⟨⟨rfl,rfl⟩,⟨rfl,rfl⟩,tR⟩ rfl ⟨⟨rfl,veq0_d rfl,rfl,rfl,tR⟩,⟨rfl,rfl,rfl,rfl,rfl,rfl,rfl,rfl,rfl,tR⟩,⟨⟨rfl,rfl⟩,tR⟩,⟨⟨rfl,rfl⟩,tR⟩,⟨rfl,rfl,rfl,fun _ _=>rfl⟩,⟨rfl,rfl,rfl,fun _ _=>rfl⟩,tR⟩ (by rw[←same];exact⟨rfl,rfl⟩)
end
theorem pairsF_ok {s:ByteArray} {l:List Tok}:∀{f n k:Nat} {x:Ins} {n':Nat} {x':Ins},pairsF s l f n k x=.ok (n',x')->n<n'∧n'≤l.length
 | 0,n,k,x,n',x',h=>by simp [pairsF] at h
 | f+1,n,k,x,n',x',h=>by
  rw[pairsF] at h
  split at h
  ·cases h
  ·obtain⟨V,hV⟩:∃V,pairV s l n x=V:=⟨_,rfl⟩
   rw[hV] at h
   rcases V with⟨a,e⟩ | ⟨n1,x1⟩
   ·cases h
   ·obtain⟨p1,p2,_⟩:=pairV_ok hV
    simp only[bnd] at h
    split at h
    ·obtain⟨q1,q2⟩:=pairsF_ok h
     exact⟨by omega,q2⟩
    ·simp only[Except.ok.injEq,Prod.mk.injEq] at h
     obtain⟨rfl,rfl⟩:=h
     exact⟨p1,p2⟩
def phiV (s:ByteArray) (l:List Tok) (n:Nat) (x:Ins):Except (Int×Int) (Nat×Ins):=
 bnd (needV s l n 91) fun n _=>closeV s l 93 (pairsF s l (l.length+1) n 0 {x with kind:=3})
section
variable (s:ByteArray) (l:List Tok) (n c:Nat) (hl:Lies s l) (hn:n≤l.length) (y:Ins) (hy:y.args.length≤100) (hy2:y.frm.length≤100)
include hl hn hy hy2 in
theorem val6_spec:ProcO PG 213 2 [.ptr 0 0, .ptr 1 0] (HX s l n c y) (outI s l c (phiV s l n y)):=by
 have hll:=hl.2.1
 refine ProcO.mk (cfgF 14 2) tysOK [0,1,2,3] Tryz.func213 rfl (by kernel_rfl) rfl rfl (okI (by omega) _) ?_
 intro C x
 have h1:=need_spec s l n c hl (by omega) ⟨#[91]⟩
 by_cases e1:(txV s l n).data.toList=[91]
 ·rw[if_pos e1] at h1
  have l1:=tx_lt e1
  refine x.call [0] rfl tR rfl h1 rfl ⟨⟨rfl,rfl⟩,rfl,tR⟩ ⟨⟨rfl,veq0_d rfl,rfl,rfl,tR⟩,tR⟩ ?_
  have h2:=list_pairs s l (n+1) c hl (by omega) {y with kind:=3} hy hy2
  obtain⟨R,hR⟩:∃R,pairsF s l (l.length+1) (n+1) 0 {y with kind:=3}=R:=⟨_,rfl⟩
  have hV:phiV s l n y=closeV s l 93 R:=by rw[phiV,needV,if_pos e1,bnd,hR]
  rw[hR] at h2
  rcases R with⟨a,e⟩ | ⟨n',y'⟩
  ·refine x.die [0,1,5,4,2,3] rfl tR rfl h2 ⟨⟨rfl,rfl⟩,rfl,rfl,tR⟩ rfl ⟨⟨rfl,veq0_d rfl,rfl,rfl,tR⟩,⟨rfl,rfl,rfl,rfl,rfl,rfl,rfl,rfl,rfl,tR⟩,⟨⟨rfl,rfl⟩,tR⟩,⟨⟨rfl,rfl⟩,tR⟩,⟨rfl,rfl,rfl,fun _ _=>rfl⟩,⟨rfl,rfl,rfl,fun _ _=>rfl⟩,tR⟩ ?_
   rw[hV]
   exact⟨rfl,rfl⟩
  ·obtain⟨q1,q2⟩:=pairsF_ok hR
   refine x.call [0,1,5,4,2,3] rfl tR rfl h2 rfl ⟨⟨rfl,rfl⟩,rfl,rfl,tR⟩ ⟨⟨rfl,veq0_d rfl,rfl,rfl,tR⟩,⟨rfl,rfl,rfl,rfl,rfl,rfl,rfl,rfl,rfl,tR⟩,⟨⟨rfl,rfl⟩,tR⟩,⟨⟨rfl,rfl⟩,tR⟩,⟨rfl,rfl,rfl,fun _ _=>rfl⟩,⟨rfl,rfl,rfl,fun _ _=>rfl⟩,tR⟩ ?_
   have h3:=need_spec s l n' c hl (by omega) ⟨#[93]⟩
   by_cases e3:(txV s l n').data.toList=[93]
   ·rw[if_pos e3] at h3
    refine x.call [0] rfl tR rfl h3 rfl ⟨⟨rfl,rfl⟩,rfl,tR⟩ ⟨⟨rfl,veq0_d rfl,rfl,rfl,tR⟩,tR⟩ ?_
    refine x.exit rfl tR ?_
    rw[hV,closeV,if_pos e3]
    exact⟨.inl rfl,tR,⟨⟨rfl,veq0_d rfl,rfl,rfl,tR⟩,⟨rfl,rfl,rfl,rfl,rfl,rfl,rfl,rfl,rfl,tR⟩,⟨rfl,rfl,rfl,fun _ _=>rfl⟩,⟨rfl,rfl,rfl,fun _ _=>rfl⟩,tR⟩,rfl⟩
   ·rw[if_neg e3] at h3
    refine x.die [0] rfl tR rfl h3 ⟨⟨rfl,rfl⟩,rfl,tR⟩ rfl ⟨⟨rfl,veq0_d rfl,rfl,rfl,tR⟩,tR⟩ ?_
    rw[hV,closeV,if_neg e3]
    exact⟨rfl,rfl⟩
 ·rw[if_neg e1] at h1
  refine x.die [0] rfl tR rfl h1 ⟨⟨rfl,rfl⟩,rfl,tR⟩ rfl ⟨⟨rfl,veq0_d rfl,rfl,rfl,tR⟩,tR⟩ ?_
  rw[phiV,needV,if_neg e1,bnd]
  exact⟨rfl,rfl⟩
end
def wordV (s:ByteArray) (l:List Tok) (n:Nat) (x:Ins) (w:List UInt8):Except (Int×Int) (Nat×Ins):=
 if w=[99,111,110,115,116] then constV s l (n+1) x else
 if w=[108,111,97,100] then cellV 4 s l (n+1) x else
 if w=[119,114,97,112] then cellV 5 s l (n+1) x else
 if w=[105,110,112,117,116] then inputV s l (n+1) x else
 if w=[99,97,108,108] then callV s l (n+1) x else
 if w=[114,101,108,101,97,115,101] then releaseV s l (n+1) x else
 if w=[112,104,105] then phiV s l (n+1) x else
 .error (atV s l n,7)
def valueV (s:ByteArray) (l:List Tok) (n:Nat) (x:Ins):Except (Int×Int) (Nat×Ins):=
 if opV (txV s l n)≠0 then bnd (argV s l (n+1) {x with kind:=2,op:=(opV (txV s l n):Int)}) fun n x=>argV s l n x
 else wordV s l n x (txV s l n).data.toList
section
variable (s:ByteArray) (l:List Tok) (n c:Nat) (hl:Lies s l) (hn:n≤l.length) (y:Ins) (hy:y.args.length≤100) (hy2:y.frm.length≤100)
include hl hn hy hy2 in
theorem value7_spec:ProcO PG 181 2 [.ptr 0 0, .ptr 1 0] (HX s l n c y) (outI s l c (valueV s l n y)):=by
 have hll:=hl.2.1
 have ei:VEq0 (vi ((n:Int)+1)) (vi ((n+1:Nat):Int)):=by rw[Int.natCast_add];rfl
 refine ProcO.mk (cfgF 72 2) tysOK [0,1,2,3] Tryz.func181 rfl (by kernel_rfl) rfl rfl (okI (by omega) _) ?_
 intro C x
 refine x.call [0] rfl tR rfl (text_spec s l n c hl (by omega) 0 (by omega)) rfl ⟨⟨rfl,rfl⟩,rfl,tR⟩ ⟨⟨rfl,veq0_d rfl,rfl,rfl,tR⟩,tR⟩ ?_
 obtain⟨w,hw⟩:∃w,txV s l n=w:=⟨_,rfl⟩
 rw[show n+0=n from rfl,hw]
 refine x.pure rfl tR rfl (op_spec w) ⟨rfl,tR⟩ ?_
 refine x.call [] rfl tR rfl values_spec rfl tR tR ?_
 refine x.look rfl tR rfl ⟨fun e=>?_,fun g0=>?_⟩
 ·have ho:opV w=0:=by unfold opV;rw[e];decide
  have lt:n<l.length:=tx_lt (by rw[hw];exact e)
  have hv:valueV s l n y=constV s l (n+1) y:=by
   rw[valueV,hw,if_neg (by rw[ho];simp),e];rfl
  refine x.cond rfl tR (fun b=>?_) (fun _=>?_)
  ·have b:decide (opV w≠0)=true:=b
   rw[ho] at b;simp at b
  refine x.cond rfl tR (fun _=>?_) (fun b=>by cases b)
  have h1:=val2_spec s l (n+1) c hl (by omega) y
  rw[hv]
  obtain⟨V,hV⟩:∃V,constV s l (n+1) y=V:=⟨_,rfl⟩
  rw[hV] at h1 ⊢
  rcases V with⟨a,b⟩ | ⟨n',y'⟩
  ·exact x.die [0,1,2,3] rfl (by simp only[AllP,inI64];omega) rfl h1 ⟨⟨rfl,rfl⟩,⟨rfl,rfl⟩,tR⟩ rfl ⟨⟨rfl,veq0_d rfl,ei,rfl,tR⟩,⟨rfl,rfl,rfl,rfl,rfl,rfl,rfl,rfl,rfl,tR⟩,⟨rfl,rfl,rfl,fun _ _=>rfl⟩,⟨rfl,rfl,rfl,fun _ _=>rfl⟩,tR⟩ ⟨rfl,rfl⟩
  ·refine x.call [0,1,2,3] rfl (by simp only[AllP,inI64];omega) rfl h1 rfl ⟨⟨rfl,rfl⟩,⟨rfl,rfl⟩,tR⟩ ⟨⟨rfl,veq0_d rfl,ei,rfl,tR⟩,⟨rfl,rfl,rfl,rfl,rfl,rfl,rfl,rfl,rfl,tR⟩,⟨rfl,rfl,rfl,fun _ _=>rfl⟩,⟨rfl,rfl,rfl,fun _ _=>rfl⟩,tR⟩ ?_
   refine x.exit rfl tR ?_
   exact⟨.inl rfl,tR,⟨⟨rfl,veq0_d rfl,rfl,rfl,tR⟩,⟨rfl,rfl,rfl,rfl,rfl,rfl,rfl,rfl,rfl,tR⟩,⟨rfl,rfl,rfl,fun _ _=>rfl⟩,⟨rfl,rfl,rfl,fun _ _=>rfl⟩,tR⟩,rfl⟩
 refine⟨fun e=>?_,fun g1=>?_⟩
 ·have ho:opV w=0:=by unfold opV;rw[e];decide
  have lt:n<l.length:=tx_lt (by rw[hw];exact e)
  have hv:valueV s l n y=cellV 4 s l (n+1) y:=by
   rw[valueV,hw,if_neg (by rw[ho];simp),e];rfl
  refine x.cond rfl tR (fun b=>?_) (fun _=>?_)
  ·have b:decide (opV w≠0)=true:=b
   rw[ho] at b;simp at b
  refine x.cond rfl tR (fun _=>?_) (fun b=>by cases b)
  have h1:=cell_spec s l (n+1) c hl (by omega) y 4
  rw[hv]
  obtain⟨V,hV⟩:∃V,cellV 4 s l (n+1) y=V:=⟨_,rfl⟩
  rw[hV] at h1 ⊢
  rcases V with⟨a,b⟩ | ⟨n',y'⟩
  ·exact x.die [0,1,2,3,5] rfl (by simp only[AllP,inI64];omega) rfl h1 ⟨⟨rfl,rfl⟩,⟨rfl,rfl⟩,⟨rfl,rfl⟩,tR⟩ rfl ⟨⟨rfl,veq0_d rfl,ei,rfl,tR⟩,⟨rfl,rfl,rfl,rfl,rfl,rfl,rfl,rfl,rfl,tR⟩,⟨rfl,rfl,rfl,fun _ _=>rfl⟩,⟨rfl,rfl,rfl,fun _ _=>rfl⟩,⟨rfl,tR⟩,tR⟩ ⟨rfl,rfl⟩
  ·refine x.call [0,1,2,3,5] rfl (by simp only[AllP,inI64];omega) rfl h1 rfl ⟨⟨rfl,rfl⟩,⟨rfl,rfl⟩,⟨rfl,rfl⟩,tR⟩ ⟨⟨rfl,veq0_d rfl,ei,rfl,tR⟩,⟨rfl,rfl,rfl,rfl,rfl,rfl,rfl,rfl,rfl,tR⟩,⟨rfl,rfl,rfl,fun _ _=>rfl⟩,⟨rfl,rfl,rfl,fun _ _=>rfl⟩,⟨rfl,tR⟩,tR⟩ ?_
   refine x.exit rfl tR ?_
   exact⟨.inl rfl,tR,⟨⟨rfl,veq0_d rfl,rfl,rfl,tR⟩,⟨rfl,rfl,rfl,rfl,rfl,rfl,rfl,rfl,rfl,tR⟩,⟨rfl,rfl,rfl,fun _ _=>rfl⟩,⟨rfl,rfl,rfl,fun _ _=>rfl⟩,tR⟩,rfl⟩
 refine⟨fun e=>?_,fun g2=>?_⟩
 ·have ho:opV w=0:=by unfold opV;rw[e];decide
  have lt:n<l.length:=tx_lt (by rw[hw];exact e)
  have hv:valueV s l n y=cellV 5 s l (n+1) y:=by
   rw[valueV,hw,if_neg (by rw[ho];simp),e];rfl
  refine x.cond rfl tR (fun b=>?_) (fun _=>?_)
  ·have b:decide (opV w≠0)=true:=b
   rw[ho] at b;simp at b
  refine x.cond rfl tR (fun _=>?_) (fun b=>by cases b)
  have h1:=cell_spec s l (n+1) c hl (by omega) y 5
  rw[hv]
  obtain⟨V,hV⟩:∃V,cellV 5 s l (n+1) y=V:=⟨_,rfl⟩
  rw[hV] at h1 ⊢
  rcases V with⟨a,b⟩ | ⟨n',y'⟩
  ·exact x.die [0,1,2,3,6] rfl (by simp only[AllP,inI64];omega) rfl h1 ⟨⟨rfl,rfl⟩,⟨rfl,rfl⟩,⟨rfl,rfl⟩,tR⟩ rfl ⟨⟨rfl,veq0_d rfl,ei,rfl,tR⟩,⟨rfl,rfl,rfl,rfl,rfl,rfl,rfl,rfl,rfl,tR⟩,⟨rfl,rfl,rfl,fun _ _=>rfl⟩,⟨rfl,rfl,rfl,fun _ _=>rfl⟩,⟨rfl,tR⟩,tR⟩ ⟨rfl,rfl⟩
  ·refine x.call [0,1,2,3,6] rfl (by simp only[AllP,inI64];omega) rfl h1 rfl ⟨⟨rfl,rfl⟩,⟨rfl,rfl⟩,⟨rfl,rfl⟩,tR⟩ ⟨⟨rfl,veq0_d rfl,ei,rfl,tR⟩,⟨rfl,rfl,rfl,rfl,rfl,rfl,rfl,rfl,rfl,tR⟩,⟨rfl,rfl,rfl,fun _ _=>rfl⟩,⟨rfl,rfl,rfl,fun _ _=>rfl⟩,⟨rfl,tR⟩,tR⟩ ?_
   refine x.exit rfl tR ?_
   exact⟨.inl rfl,tR,⟨⟨rfl,veq0_d rfl,rfl,rfl,tR⟩,⟨rfl,rfl,rfl,rfl,rfl,rfl,rfl,rfl,rfl,tR⟩,⟨rfl,rfl,rfl,fun _ _=>rfl⟩,⟨rfl,rfl,rfl,fun _ _=>rfl⟩,tR⟩,rfl⟩
 refine⟨fun e=>?_,fun g3=>?_⟩
 ·have ho:opV w=0:=by unfold opV;rw[e];decide
  have lt:n<l.length:=tx_lt (by rw[hw];exact e)
  have hv:valueV s l n y=inputV s l (n+1) y:=by
   rw[valueV,hw,if_neg (by rw[ho];simp),e];rfl
  refine x.cond rfl tR (fun b=>?_) (fun _=>?_)
  ·have b:decide (opV w≠0)=true:=b
   rw[ho] at b;simp at b
  refine x.cond rfl tR (fun _=>?_) (fun b=>by cases b)
  have h1:=val3_spec s l (n+1) c hl (by omega) y
  rw[hv]
  obtain⟨V,hV⟩:∃V,inputV s l (n+1) y=V:=⟨_,rfl⟩
  rw[hV] at h1 ⊢
  rcases V with⟨a,b⟩ | ⟨n',y'⟩
  ·exact x.die [0,1,2,3] rfl (by simp only[AllP,inI64];omega) rfl h1 ⟨⟨rfl,rfl⟩,⟨rfl,rfl⟩,tR⟩ rfl ⟨⟨rfl,veq0_d rfl,ei,rfl,tR⟩,⟨rfl,rfl,rfl,rfl,rfl,rfl,rfl,rfl,rfl,tR⟩,⟨rfl,rfl,rfl,fun _ _=>rfl⟩,⟨rfl,rfl,rfl,fun _ _=>rfl⟩,tR⟩ ⟨rfl,rfl⟩
  ·refine x.call [0,1,2,3] rfl (by simp only[AllP,inI64];omega) rfl h1 rfl ⟨⟨rfl,rfl⟩,⟨rfl,rfl⟩,tR⟩ ⟨⟨rfl,veq0_d rfl,ei,rfl,tR⟩,⟨rfl,rfl,rfl,rfl,rfl,rfl,rfl,rfl,rfl,tR⟩,⟨rfl,rfl,rfl,fun _ _=>rfl⟩,⟨rfl,rfl,rfl,fun _ _=>rfl⟩,tR⟩ ?_
   refine x.exit rfl tR ?_
   exact⟨.inl rfl,tR,⟨⟨rfl,veq0_d rfl,rfl,rfl,tR⟩,⟨rfl,rfl,rfl,rfl,rfl,rfl,rfl,rfl,rfl,tR⟩,⟨rfl,rfl,rfl,fun _ _=>rfl⟩,⟨rfl,rfl,rfl,fun _ _=>rfl⟩,tR⟩,rfl⟩
 refine⟨fun e=>?_,fun g4=>?_⟩
 ·have ho:opV w=0:=by unfold opV;rw[e];decide
  have lt:n<l.length:=tx_lt (by rw[hw];exact e)
  have hv:valueV s l n y=callV s l (n+1) y:=by
   rw[valueV,hw,if_neg (by rw[ho];simp),e];rfl
  refine x.cond rfl tR (fun b=>?_) (fun _=>?_)
  ·have b:decide (opV w≠0)=true:=b
   rw[ho] at b;simp at b
  refine x.cond rfl tR (fun _=>?_) (fun b=>by cases b)
  have h1:=val4_spec s l (n+1) c hl (by omega) y
  rw[hv]
  obtain⟨V,hV⟩:∃V,callV s l (n+1) y=V:=⟨_,rfl⟩
  rw[hV] at h1 ⊢
  rcases V with⟨a,b⟩ | ⟨n',y'⟩
  ·exact x.die [0,1,2,3] rfl (by simp only[AllP,inI64];omega) rfl h1 ⟨⟨rfl,rfl⟩,⟨rfl,rfl⟩,tR⟩ rfl ⟨⟨rfl,veq0_d rfl,ei,rfl,tR⟩,⟨rfl,rfl,rfl,rfl,rfl,rfl,rfl,rfl,rfl,tR⟩,⟨rfl,rfl,rfl,fun _ _=>rfl⟩,⟨rfl,rfl,rfl,fun _ _=>rfl⟩,tR⟩ ⟨rfl,rfl⟩
  ·refine x.call [0,1,2,3] rfl (by simp only[AllP,inI64];omega) rfl h1 rfl ⟨⟨rfl,rfl⟩,⟨rfl,rfl⟩,tR⟩ ⟨⟨rfl,veq0_d rfl,ei,rfl,tR⟩,⟨rfl,rfl,rfl,rfl,rfl,rfl,rfl,rfl,rfl,tR⟩,⟨rfl,rfl,rfl,fun _ _=>rfl⟩,⟨rfl,rfl,rfl,fun _ _=>rfl⟩,tR⟩ ?_
   refine x.exit rfl tR ?_
   exact⟨.inl rfl,tR,⟨⟨rfl,veq0_d rfl,rfl,rfl,tR⟩,⟨rfl,rfl,rfl,rfl,rfl,rfl,rfl,rfl,rfl,tR⟩,⟨rfl,rfl,rfl,fun _ _=>rfl⟩,⟨rfl,rfl,rfl,fun _ _=>rfl⟩,tR⟩,rfl⟩
 refine⟨fun e=>?_,fun g5=>?_⟩
 ·have ho:opV w=0:=by unfold opV;rw[e];decide
  have lt:n<l.length:=tx_lt (by rw[hw];exact e)
  have hv:valueV s l n y=releaseV s l (n+1) y:=by
   rw[valueV,hw,if_neg (by rw[ho];simp),e];rfl
  refine x.cond rfl tR (fun b=>?_) (fun _=>?_)
  ·have b:decide (opV w≠0)=true:=b
   rw[ho] at b;simp at b
  refine x.cond rfl tR (fun _=>?_) (fun b=>by cases b)
  have h1:=val5_spec s l (n+1) c hl (by omega) y
  rw[hv]
  obtain⟨V,hV⟩:∃V,releaseV s l (n+1) y=V:=⟨_,rfl⟩
  rw[hV] at h1 ⊢
  rcases V with⟨a,b⟩ | ⟨n',y'⟩
  ·exact x.die [0,1,2,3] rfl (by simp only[AllP,inI64];omega) rfl h1 ⟨⟨rfl,rfl⟩,⟨rfl,rfl⟩,tR⟩ rfl ⟨⟨rfl,veq0_d rfl,ei,rfl,tR⟩,⟨rfl,rfl,rfl,rfl,rfl,rfl,rfl,rfl,rfl,tR⟩,⟨rfl,rfl,rfl,fun _ _=>rfl⟩,⟨rfl,rfl,rfl,fun _ _=>rfl⟩,tR⟩ ⟨rfl,rfl⟩
  ·refine x.call [0,1,2,3] rfl (by simp only[AllP,inI64];omega) rfl h1 rfl ⟨⟨rfl,rfl⟩,⟨rfl,rfl⟩,tR⟩ ⟨⟨rfl,veq0_d rfl,ei,rfl,tR⟩,⟨rfl,rfl,rfl,rfl,rfl,rfl,rfl,rfl,rfl,tR⟩,⟨rfl,rfl,rfl,fun _ _=>rfl⟩,⟨rfl,rfl,rfl,fun _ _=>rfl⟩,tR⟩ ?_
   refine x.exit rfl tR ?_
   exact⟨.inl rfl,tR,⟨⟨rfl,veq0_d rfl,rfl,rfl,tR⟩,⟨rfl,rfl,rfl,rfl,rfl,rfl,rfl,rfl,rfl,tR⟩,⟨rfl,rfl,rfl,fun _ _=>rfl⟩,⟨rfl,rfl,rfl,fun _ _=>rfl⟩,tR⟩,rfl⟩
 refine⟨fun e=>?_,fun g6=>?_⟩
 ·have ho:opV w=0:=by unfold opV;rw[e];decide
  have lt:n<l.length:=tx_lt (by rw[hw];exact e)
  have hv:valueV s l n y=phiV s l (n+1) y:=by
   rw[valueV,hw,if_neg (by rw[ho];simp),e];rfl
  refine x.cond rfl tR (fun b=>?_) (fun _=>?_)
  ·have b:decide (opV w≠0)=true:=b
   rw[ho] at b;simp at b
  refine x.cond rfl tR (fun _=>?_) (fun b=>by cases b)
  have h1:=val6_spec s l (n+1) c hl (by omega) y hy hy2
  rw[hv]
  obtain⟨V,hV⟩:∃V,phiV s l (n+1) y=V:=⟨_,rfl⟩
  rw[hV] at h1 ⊢
  rcases V with⟨a,b⟩ | ⟨n',y'⟩
  ·exact x.die [0,1,2,3] rfl (by simp only[AllP,inI64];omega) rfl h1 ⟨⟨rfl,rfl⟩,⟨rfl,rfl⟩,tR⟩ rfl ⟨⟨rfl,veq0_d rfl,ei,rfl,tR⟩,⟨rfl,rfl,rfl,rfl,rfl,rfl,rfl,rfl,rfl,tR⟩,⟨rfl,rfl,rfl,fun _ _=>rfl⟩,⟨rfl,rfl,rfl,fun _ _=>rfl⟩,tR⟩ ⟨rfl,rfl⟩
  ·refine x.call [0,1,2,3] rfl (by simp only[AllP,inI64];omega) rfl h1 rfl ⟨⟨rfl,rfl⟩,⟨rfl,rfl⟩,tR⟩ ⟨⟨rfl,veq0_d rfl,ei,rfl,tR⟩,⟨rfl,rfl,rfl,rfl,rfl,rfl,rfl,rfl,rfl,tR⟩,⟨rfl,rfl,rfl,fun _ _=>rfl⟩,⟨rfl,rfl,rfl,fun _ _=>rfl⟩,tR⟩ ?_
   refine x.exit rfl tR ?_
   exact⟨.inl rfl,tR,⟨⟨rfl,veq0_d rfl,rfl,rfl,tR⟩,⟨rfl,rfl,rfl,rfl,rfl,rfl,rfl,rfl,rfl,tR⟩,⟨rfl,rfl,rfl,fun _ _=>rfl⟩,⟨rfl,rfl,rfl,fun _ _=>rfl⟩,tR⟩,rfl⟩
 have hd:wordV s l n y w.data.toList=.error (atV s l n,7):=by
  rw[wordV,if_neg g0,if_neg g1,if_neg g2,if_neg g3,if_neg g4,if_neg g5,if_neg g6]
 refine x.cond rfl tR (fun b=>?_) (fun b=>?_)
 ·have b:decide (opV w≠0)=true:=b
  have b:opV w≠0:=by simpa using b
  have lt:n<l.length:=by
   refine Classical.byContradiction fun hh=>b ?_
   rw[←hw,txV,if_neg hh];decide
  have hv:valueV s l n y=bnd (argV s l (n+1) {y with kind:=2,op:=(opV w:Int)}) fun n x=>argV s l n x:=by
   rw[valueV,hw,if_pos b]
  have h1:=name7_spec s l (n+1) c hl (by omega)
  cases e1:isV l (n+1) 1 with
  | false=>
   rw[e1,if_neg (by simp)] at h1
   refine x.draw [0] [0,1,5] [2,3,4] [6,7] [8,9,10,11] rfl (by simp only[AllP,inI64];omega) mixedP (by kernel_rfl) RetO.quiet rfl tR (fun C1 x1=>?_)
   refine x1.die [0] rfl tR rfl h1 ⟨⟨rfl,rfl⟩,tR⟩ rfl ⟨⟨rfl,veq0_d rfl,ei,rfl,tR⟩,tR⟩ ⟨⟨_,rfl⟩,rfl,?_⟩
   rw[hv]
   simp only[argV,nmV,bnd,e1,if_true,Bool.false_eq_true,if_false]
   exact⟨rfl,rfl⟩
  | true=>
   rw[e1,if_pos rfl] at h1
   have l1:=isV_lt e1
   refine x.draw [0] [0,1,5] [2,3,4] [6,7] [8,9,10,11] rfl (by simp only[AllP,inI64];omega) mixedP (by kernel_rfl) RetO.quiet rfl tR (fun C1 x1=>?_)
   refine x1.call [0] rfl tR rfl h1 rfl ⟨⟨rfl,rfl⟩,tR⟩ ⟨⟨rfl,veq0_d rfl,ei,rfl,tR⟩,tR⟩ ?_
   refine x1.back rfl tR ?_
   refine x1.back rfl tR ?_
   refine x.code rfl (by simp only[AllP,big,List.length_append,List.length_cons,List.length_nil];omega) ?_
   refine x.le (s':=⟨[(0, .ptr 0 0),(1, .ptr 1 0)],[(0,pC s l (n+1+1) c),(1,iC {y with kind:=2,op:=(opV w:Int)}),(2,strC (y.args++[txV s l (n+1)])),(3,strC y.frm)],4⟩) ⟨⟨⟨rfl,rfl⟩,⟨rfl,rfl⟩,tR⟩,⟨⟨rfl,veq0_d rfl,rfl,rfl,tR⟩,⟨rfl,rfl,rfl,rfl,rfl,rfl,rfl,rfl,rfl,tR⟩,⟨rfl,rfl,len1 _ _,fun j hj=>app_str _ _ j hj⟩,⟨rfl,rfl,rfl,fun _ _=>rfl⟩,tR⟩,rfl⟩ ?_
   have h2:=name7_spec s l (n+1+1) c hl (by omega)
   cases e2:isV l (n+1+1) 1 with
   | false=>
    rw[e2,if_neg (by simp)] at h2
    refine x.draw [0] [0,1,5] [2,3,4] [6,7] [8,9,10,11] rfl tR mixedP (by kernel_rfl) RetO.quiet rfl tR (fun C1 x1=>?_)
    refine x1.die [0] rfl tR rfl h2 ⟨⟨rfl,rfl⟩,tR⟩ rfl ⟨⟨rfl,veq0_d rfl,rfl,rfl,tR⟩,tR⟩ ⟨⟨_,rfl⟩,rfl,?_⟩
    rw[hv]
    simp only[argV,nmV,bnd,e1,e2,if_true,Bool.false_eq_true,if_false]
    exact⟨rfl,rfl⟩
   | true=>
    rw[e2,if_pos rfl] at h2
    refine x.draw [0] [0,1,5] [2,3,4] [6,7] [8,9,10,11] rfl tR mixedP (by kernel_rfl) RetO.quiet rfl tR (fun C1 x1=>?_)
    refine x1.call [0] rfl tR rfl h2 rfl ⟨⟨rfl,rfl⟩,tR⟩ ⟨⟨rfl,veq0_d rfl,rfl,rfl,tR⟩,tR⟩ ?_
    refine x1.back rfl tR ?_
    refine x1.back rfl tR ?_
    refine x.exit rfl (by simp only[AllP,big,List.length_append,List.length_cons,List.length_nil];omega) ?_
    rw[hv]
    simp only[argV,nmV,bnd,e1,e2,if_true]
    exact⟨.inl rfl,tR,⟨⟨rfl,veq0_d rfl,rfl,rfl,tR⟩,⟨rfl,rfl,rfl,rfl,rfl,rfl,rfl,rfl,rfl,tR⟩,⟨rfl,rfl,len1 _ _,fun j hj=>app_str _ _ j hj⟩,⟨rfl,rfl,rfl,fun _ _=>rfl⟩,tR⟩,rfl⟩
 ·have b:decide (opV w≠0)=false:=b
  have b:opV w=0:=by simpa using b
  refine x.cond rfl tR (fun b=>by cases b) (fun _=>?_)
  refine x.die [0] rfl tR rfl (fail_spec s l n c (by omega) 7) ⟨⟨rfl,rfl⟩,rfl,tR⟩ rfl ⟨⟨rfl,veq0_d rfl,rfl,rfl,tR⟩,tR⟩ ?_
  rw[valueV,hw,if_neg (by rw[b];simp),hd]
  exact⟨rfl,rfl⟩
end
end Go.Proofs.YtojhdmfkfkfcbaaGreatDoor
