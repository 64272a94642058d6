import Derived.Test.YtojhdmfkfkfcbaaGreatDoorMI
import Derived.Test.YtojhdmfkfkfcbaaGreatDoorRows
import Derived.ProofKit
import Derived.Test.YtojhdmfkfkfcbaaGreatDoorSxA
set_option maxHeartbeats 1000000000
set_option linter.unusedSimpArgs false
set_option linter.unusedVariables false
namespace Go.Proofs.YtojhdmfkfkfcbaaGreatDoor
open Go.Sx
set_option maxRecDepth 100000
theorem R8{p:Pol}{q:Prg}{c:Cod}(hP:gW p=true)(hq:rightG q=true)(hn:∀f,f∈q.funcs->∀b,b∈f.blocks->∀x,x∈b.code->aj x.num)(hz:(kg q).size≤65536)(hc:vE p q=.ok c) :
  (bJ (kg q)).2.2=0∧∃c',ig p (bJ (kg q)).1=(c',0,0)∧mF p c'∧stC c'=stC c:=by
 obtain⟨h1,h2,h3⟩:=R7 hq hn hz;have hr:=(oQ h1).1
 have he:erP (bJ (kg q)).1=erP q:=by
  unfold erP;rw[h2,h3]
 obtain⟨c',h4,h5⟩:=WX he hc;refine⟨h1,c',?_,yt hP (lF.1 hr) (yj.1 h4),h5⟩;unfold ig;rw[if_pos (by rw[hP,hr];rfl),h4];rfl
theorem W9{p:Pol}{c c':Cod}(hc:mF p c')(h:stC c'=stC c):Pure PG 18 [rO c',rO c,vb false] (vb true) []:=by
 unfold stC at h
 injection h with h1 h2 h3
 have hz:=Im hc;have:=Il c'.arrays c'.funcs c.funcs c'.main false hz.a hz.f hz.b (aae h2)
 rw[show rO c=rO ⟨c'.arrays,c.funcs,c'.main⟩ by rw[h1,h3]]
 exact this
theorem R9(p:Pol)(c:Cod)(hz:agA p c):Pure PG 6 [Bf p,rO c] (vb true) []:=by
 have hS:=RY c (by have:=hz.c.fl;unfold wz at this;omega) (λb hb=>by have:=(hz.c.b b hb).bl;unfold wz at this;omega)
 refine aG.mk (cfg 96) aA [] Tryz.func6 Z (by kernel_rfl) Z Z Z ?_
 intro C x;refine x.pure Z tR Z hS ⟨⟨ah Z,ah Z,Z,tR⟩,Z,tR⟩ ?_;refine x.cond Z tR (λh=>?_) (λh=>?_)
 ·exact x.exit Z tR ⟨.inr Z,Z,tR,Z⟩
 have h:(!ZY c)=false:=h;have hsm:RX c:=Classical.byContradiction λg=>by rw[TY g] at h;cases h
 have hz:=agC hz hsm;have hC6:=QV p hz.z.toPolSz;have hC9:=RV c hz.cz;have hR:=zS p c hz.z hz.pl hz.sz hz.q (λq _=>WT (c:=c))
 obtain⟨Q,n,hV,hQ⟩:∃(Q:Prg) (n:Int),Lg (nE p c)=.tup [Ns Q,vi n]∧((n=1∧Q=⟨[],[]⟩)∨(n=0∧mF p c∧Q=gX p c)):=by
  by_cases hc:mF p c
  ·exact⟨gX p c,0,by rw[Io hc],.inr ⟨Z,hc,Z⟩⟩
  ·have e:nE p c=none:=by
    cases g:nE p c with
    | none=>rfl
    | some q=>exact absurd (WS g) hc
   exact⟨⟨[],[]⟩,1,by rw[e],.inl ⟨Z,Z⟩⟩
 rw[hV] at hR;refine x.ev2 [] [0,2] (mkO [(1,[]),(3,[1]),(4,[3]),(5,[4]),(6,[5]),(7,[5]),(8,[]),(9,[6,8]),(10,[7,9])] 10 []) (λs=>s.on [2,3] [(5,.ptr 2 0),(6,vi n)] [(2,.box [.d (bX Q.arrays),.d (bW Q.funcs)])] 3) Z tR ay (by kernel_rfl) Ret.bG Z tR (λC1 x1=>?_) ?_
 ·repeat' first
   | exact True.intro
   | refine And.intro ?_ ?_
   | refine x1.pure rfl tR rfl hC6 ⟨⟨ah rfl,ah rfl,ah rfl,ah rfl,rfl,tR⟩,tR⟩ (x1.back rfl tR ?_)
   | refine x1.pure rfl tR rfl hC9 ⟨⟨ah rfl,ah rfl,rfl,tR⟩,tR⟩ (x1.back rfl tR ?_)
   | refine x1.pure rfl tR rfl hR ⟨⟨ah rfl,ah rfl,ah rfl,ah rfl,rfl,tR⟩,⟨ah rfl,ah rfl,rfl,tR⟩,tR⟩ (x1.back rfl tR ?_)
   | refine x1.back rfl tR ?_
   | exact Or.inl .is
 rcases hQ with⟨rfl,rfl⟩ | ⟨rfl,hc,rfl⟩
 ·refine x.cond Z tR (λh=>?_) (λh=>absurd h (by decide))
  refine x.gG Z tR Z (λ_=>xB) Z tR ?_
  exact x.exit Z tR ⟨.inr Z,Z,tR,Z⟩
 refine x.cond Z tR (λh=>absurd (show (false:Bool)=true from h) (by decide)) (λh=>?_)
 have hG:=lF.2 (zV hc);have hF:=Dq hc hz.n;have hN:∀f,f∈(gX p c).funcs->∀b,b∈f.blocks->∀x,x∈b.code->aj x.num:=λf hf b hb x hx=>(((hF.funcs f hf).blocks b hb).code x hx).num
 have r1:=mE p (gX p c) hz.z hF;rw[qz hc] at r1;have hV2:=yj.2 (HV hc);refine x.pure Z tR Z r1 ⟨⟨ah Z,ah Z,ah Z,ah Z,Z,tR⟩,⟨ah Z,ah Z,tR⟩,tR⟩ ?_;have hp:=RJ (gX p c) hF;unfold GJ at hp;rw[if_pos hG] at hp;have aep:=λh=>R8 hc.pol hG hN h hV2
 generalize gX p c=Q at *
 by_cases hsz:65536<(kg Q).size
 ·rw[if_pos hsz] at hp
  refine x.pure Z tR Z hp ⟨⟨ah Z,ah Z,tR⟩,tR⟩ ?_;refine x.gG Z tR Z (λ_=>Ip hc true) Z ⟨⟨ah Z,ah Z,Z,tR⟩,⟨ah Z,ah Z,Z,tR⟩,Z,tR⟩ ?_
  refine x.cond Z tR (λh=>absurd (show (false:Bool)=true from h) (by decide)) (λh=>?_)
  refine x.cond Z tR (λh=>?_) (λh=>absurd h (by decide))
  refine x.pure Z tR Z xB tR ?_;exact x.exit Z tR ⟨.inr Z,Z,tR,Z⟩
 rw[if_neg hsz] at hp;obtain⟨h1,c',h2,h3,h4⟩:=aep (by omega)
 have hrG:=oQ h1;have r2:=mE p (bJ (kg Q)).1 hz.z (yA hrG.1 hrG.2);rw[h2] at r2;have h7:=wJ (kg Q) (by omega)
 generalize bJ (kg Q)=R at *
 obtain⟨R,u,e⟩:=R;have h1:e=0:=h1;subst h1
 generalize kg Q=T at *
 refine x.pure Z tR Z hp ⟨⟨ah Z,ah Z,tR⟩,tR⟩ ?_;refine x.gG Z tR Z (λ_=>Ip hc true) Z ⟨⟨ah Z,ah Z,Z,tR⟩,⟨ah Z,ah Z,Z,tR⟩,Z,tR⟩ ?_
 refine x.cond Z tR (λh=>absurd (show (false:Bool)=true from h) (by decide)) (λh=>?_)
 refine x.cond Z tR (λh=>absurd (show (false:Bool)=true from h) (by decide)) (λh=>?_)
 refine x.pure Z tR Z h7 ⟨Z,tR⟩ ?_;refine x.pure Z tR Z r2 ⟨⟨ah Z,ah Z,ah Z,ah Z,Z,tR⟩,⟨ah Z,ah Z,tR⟩,tR⟩ ?_;refine x.gG Z tR Z (λ_=>W9 h3 h4) Z ⟨⟨ah Z,ah Z,Z,tR⟩,⟨ah Z,ah Z,Z,tR⟩,Z,tR⟩ ?_
 refine x.gG Z tR Z (λ_=>xB) Z tR ?_
 exact x.exit Z tR ⟨.inr Z,Z,tR,Z⟩
theorem Xa(p:Pol)(c:Cod)(h:Ki p∧p.ins.length*24≤wz∧p.outs.length*24≤wz)(h2:Z0 wz c):Pure PG 6 [Bf p,rO c] (vb true) []:=
 R9 p c ⟨h.1,by obtain⟨_,h3,h4⟩:=h;unfold wz at h3 h4;omega,h2⟩
end Go.Proofs.YtojhdmfkfkfcbaaGreatDoor
namespace Go.Proofs.YtojhdmfkfkfcbaaGreatDoor
open Go.Sx
theorem Iz{H:Type}(d:DataW H):1≤Rows.uptoBulk d:=by
 cases d with
 | lit l=>cases l<;>simp [Rows.uptoBulk]
 | nil=>simp [Rows.uptoBulk]
 | ptr d=>simp [Rows.uptoBulk]
 | slice elems spare=>simp [Rows.uptoBulk]
 | agg parts=>simp [Rows.uptoBulk]
 | iface t d=>simp [Rows.uptoBulk]
 | map entries=>simp [Rows.uptoBulk]
 | held h=>simp [Rows.uptoBulk]
theorem IB{H:Type}:∀l:List (DataW H),l.length≤Rows.uptoBulkAll l
 | []=>Nat.zero_le _
 | x::r=>by have:=IB r;have:=Iz x;simp only[Rows.uptoBulkAll,List.length_cons];omega
def clB(P:Program)(B N:Nat):Bool:=(List.range N).all λt=>match P.underlying t with
 | some (.pointer e)=>decide (e<N)
 | some (.slice e)=>decide (e<N)&&decide (P.bytesOf e≤B)
 | some (.struct fs)=>fs.toList.all λf=>decide (f.type<N)
 | some (.array _ e)=>decide (e<N)
 | some (.map k e)=>decide (e<N)&&(decide (P.bytesOf k≤B)&&decide (P.bytesOf e≤B))
 | _=>true
section
variable{H:Type}{P:Program}{B N:Nat}
def abR(H:Type)(P:Program)(B N k:Nat):Prop:=∀(d:DataW H) (t:TypeId),t<N->Rows.uptoBulk d≤k->∀n∈DataW.weights P t d,n≤Rows.uptoBulk d*(2*B)
theorem jq{a b c n:Nat}(h:n≤a*c)(hab:a≤b):n≤b*c:=Nat.le_trans h (Nat.mul_le_mul_right _ hab)
theorem LJ{k:Nat}(ih:abR H P B N k)(e:TypeId)(he:e<N):∀(l:List (DataW H)),Rows.uptoBulkAll l≤k->∀n∈DataW.weightsAll P e l,n≤Rows.uptoBulkAll l*(2*B)
 | [],_,n,hn=>by simp [DataW.weightsAll] at hn
 | d::r,h,n,hn=>by
  simp only[Rows.uptoBulkAll] at h ⊢;simp only[DataW.weightsAll,List.mem_append] at hn
  rcases hn with hn | hn
  ·exact jq (ih d e he (by omega) n hn) (by omega)
  ·exact jq (LJ ih e he r (by omega) n hn) (by omega)
theorem Ug{k:Nat}(ih:abR H P B N k):∀(ts:List TypeId) (l:List (DataW H)),(∀t∈ts,t<N)->Rows.uptoBulkAll l≤k->∀n∈DataW.weightsEach P ts l,n≤Rows.uptoBulkAll l*(2*B)
 | [],l,_,_,n,hn=>by cases l<;>simp [DataW.weightsEach] at hn
 | t::ts,[],_,_,n,hn=>by simp [DataW.weightsEach] at hn
 | t::ts,d::r,ht,h,n,hn=>by
  simp only[Rows.uptoBulkAll] at h ⊢;simp only[DataW.weightsEach,List.mem_append] at hn
  rcases hn with hn | hn
  ·exact jq (ih d t (ht t (.head _)) (by omega) n hn) (by omega)
  ·exact jq (Ug ih ts r (λt h=>ht t (.tail _ h)) (by omega) n hn) (by omega)
theorem Uh(hB:1≤B){k:Nat}(ih:abR H P B N k)(e:TypeId)(he:e<N):∀(l:List (Lit×DataW H)),Rows.uptoBulkEntries l≤k->l.length≤Rows.uptoBulkEntries l∧∀n∈DataW.weightsEntries P e l,n≤Rows.uptoBulkEntries l*(2*B)
 | [],_=>⟨Nat.zero_le _,λn hn=>by simp [DataW.weightsEntries] at hn⟩
 | (l,d)::r,h=>by
  simp only[Rows.uptoBulkEntries] at h ⊢;obtain⟨h1,h2⟩:=Uh hB ih e he r (by omega)
  have hx:Rows.uptoBulk d+1≤Rows.uptoBulkEntry (l,d)∧∀n∈DataW.weightsEntry P e (l,d),n≤Rows.uptoBulkEntry (l,d)*(2*B):=by
   cases l with
   | string bytes=>
    simp only[Rows.uptoBulkEntry,DataW.weightsEntry,List.mem_cons] at h ⊢;refine⟨by omega,λn hn=>?_⟩
    rcases hn with rfl | hn
    ·refine Nat.le_trans (Nat.le_mul_of_pos_right _ (show 0<2*B by omega)) (Nat.mul_le_mul_right _ (by omega))
    ·exact jq (ih d e he (by omega) n hn) (by omega)
   | _=>
    simp only[Rows.uptoBulkEntry,DataW.weightsEntry] at h ⊢;exact⟨Nat.le_refl _,λn hn=>jq (ih d e he (by omega) n hn) (by omega)⟩
  refine⟨by simp only[List.length_cons];have:=Iz d;omega,λn hn=>?_⟩
  simp only[DataW.weightsEntries,List.mem_append] at hn
  rcases hn with hn | hn
  ·exact jq (hx.2 n hn) (by omega)
  ·exact jq (h2 n hn) (by omega)
theorem acB(hB:1≤B)(hb:clB P B N=true):∀k,abR H P B N k
 | 0=>λd t _ h=>by have:=Iz d;omega
 | k+1=>λd t ht h n hn=>by
  have ih:=acB hB hb k;have hc:=List.all_eq_true.1 hb t (List.mem_range.2 ht)
  cases d with
  | lit l=>
   cases l with
   | string bytes=>
    simp only[DataW.weights,List.mem_singleton] at hn;subst hn;simp only[Rows.uptoBulk];exact Nat.le_trans (Nat.le_mul_of_pos_right _ (show 0<2*B by omega)) (Nat.mul_le_mul_right _ (by omega))
   | _=>simp [DataW.weights] at hn
  | nil=>simp [DataW.weights] at hn
  | ptr d=>
   simp only[Rows.uptoBulk] at h ⊢;simp only[DataW.weights] at hn;split at hn
   ·rename_i e he
    rw[he] at hc;exact jq (ih d _ (agP hc) (by omega) n hn) (by omega)
   ·simp at hn
  | slice elems spare=>
   simp only[Rows.uptoBulk] at h ⊢;simp only[DataW.weights] at hn;have h1:=IB elems;have h2:=IB spare;split at hn
   ·rename_i e he
    rw[he] at hc;simp only[agN,agT] at hc
    rcases List.mem_cons.1 hn with rfl | hn
    ·refine Nat.le_trans (Nat.mul_le_mul_left _ hc.2) ?_
     exact Nat.mul_le_mul (by omega) (by omega)
    ·rcases List.mem_append.1 hn with hn | hn
     ·exact jq (LJ ih _ hc.1 elems (by omega) n hn) (by omega)
     ·exact jq (LJ ih _ hc.1 spare (by omega) n hn) (by omega)
   ·simp at hn
  | agg parts=>
   simp only[Rows.uptoBulk] at h ⊢;simp only[DataW.weights] at hn;split at hn
   ·rename_i fs he
    rw[he] at hc;refine jq (Ug ih _ parts (λu hu=>?_) (by omega) n hn) (by omega)
    obtain⟨f,hf,rfl⟩:=List.mem_map.1 hu;exact agP (List.all_eq_true.1 hc f hf)
   ·rename_i m e he
    rw[he] at hc;exact jq (LJ ih _ (agP hc) parts (by omega) n hn) (by omega)
   ·simp at hn
  | iface s d=>simp [DataW.weights] at hn
  | map es=>
   simp only[Rows.uptoBulk] at h ⊢;simp only[DataW.weights] at hn;split at hn
   ·rename_i kk e he
    rw[he] at hc;simp only[agN,agT] at hc;obtain⟨h1,h2⟩:=Uh hB ih e hc.1 es (by omega)
    rcases List.mem_cons.1 hn with rfl | hn
    ·have:=hc.2.1
     have:=hc.2.2;exact Nat.mul_le_mul (by omega) (by omega)
    ·exact jq (h2 n hn) (by omega)
   ·simp at hn
  | held h=>simp [DataW.weights] at hn
theorem BO(hB:1≤B)(hb:clB P B N=true){d:DataW H}{t:TypeId}(ht:t<N){K:Nat}(h:Rows.uptoBulk d≤K):∀n∈DataW.weights P t d,n≤K*(2*B):=λn hn=>jq (acB hB hb _ d t ht (Nat.le_refl _) n hn) h
end
end Go.Proofs.YtojhdmfkfkfcbaaGreatDoor
