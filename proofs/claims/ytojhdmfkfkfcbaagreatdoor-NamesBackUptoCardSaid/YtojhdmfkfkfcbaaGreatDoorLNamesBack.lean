import Derived.Test.YtojhdmfkfkfcbaaGreatDoorRows
import Derived.Test.YtojhdmfkfkfcbaaGreatDoorCards
import Derived.Test.YtojhdmfkfkfcbaaGreatDoorTie
import Derived.OpenShut
import Derived.ShutString
import Derived.Handed
import Derived.MakeChecks
import Derived.LaidHandle
import Derived.LaidLaws
import Derived.SizedLaws
import Derived.SevenTiedAt
import Derived.Lib.LaidIn
import Derived.Lib.LaidU8T
import Derived.Carry
import Derived.Deep.DeepHandedRow
import Derived.Shelf.Vars
import Derived.Test.YtojhdmfkfkfcbaaGreatDoorMH
import Derived.Test.YtojhdmfkfkfcbaaGreatDoorMJ
set_option linter.unusedVariables false
namespace Go.Proofs.YtojhdmfkfkfcbaaGreatDoor.namesBack
open Go.ChangeShapes Go.WideShapes Go.ChangeAt Go.RowKit
open Go.ChangeMaps (open_string shut_string)
open Go.Shelf Go.Lib Go.Sx
theorem own:ownKnob Tryz.prog.godebug=none:=by kernel_rfl
theorem lies:laidOutB Tryz.prog=true:=by kernel_rfl
theorem Fa:Rows.namesBackUptoRow.laid=[("interdict/arith.names",Rows.laid_interdict_arith_names),("math/bits.deBruijn64tab",Rows.laid_math_bits_deBruijn64tab),("unicode/utf8.acceptRanges",Lib.acceptData),("unicode/utf8.first",Lib.firstData)]:=by kernel_rfl
noncomputable def Dt (os:Os):World:=
 let w0:=World.holding Tryz.prog os ⟨#[],#[],[]⟩
 let put (h:Array Obj) (g:Nat) (cs:Array Value):Array Obj:=h.modify g fun
  | .cells _ t frozen=>.cells cs t frozen
  | o=>o
 let h1:=put w0.heap 1 (Lib.firstTab.map λz=>Value.int .u8 z).toArray
 let h2:=put h1 2 ((List.range 16).flatMap λi=>[Value.int .u8 (Lib.accLo i),Value.int .u8 (Lib.accHi i)]).toArray
 let h3:=put h2 3 ((List.range 13).map λj=>Value.string (opAt j)).toArray
 let h4:=put h3 4 (yS.map λz=>Value.int .u8 z).toArray
 {w0 with heap:=h4}
theorem aal(os:Os)(args:Array Value):laidMetH Tryz.prog Rows.namesBackUptoRow.laid ((Dt os).forCall (λ_ _=>0) ⟨#[],args,[]⟩).memory:=by
 rw[Fa,MakeChecks.laidMetH_plain _ _ _ (by kernel_rfl)]
 exact (LaidIn.of_run (l:=[("interdict/arith.names",Rows.laid_interdict_arith_names),("math/bits.deBruijn64tab",Rows.laid_math_bits_deBruijn64tab),("unicode/utf8.acceptRanges",Lib.acceptData),("unicode/utf8.first",Lib.firstData)]) [3,4,1,2] 8 (by kernel_rfl) (by kernel_rfl) (by kernel_rfl) (by kernel_rfl)).met
theorem LK{W:World}(h:laidMetH Tryz.prog Rows.namesBackUptoRow.laid W):Lib.Utf8Tabs 1 2 W:=by
 rw[Fa,MakeChecks.laidMetH_plain _ _ _ (by kernel_rfl)] at h
 exact utf8Tabs_of_readsT (U8Types.of260 Tryz.lays260) ⟨by kernel_rfl,by kernel_rfl,by kernel_rfl,by kernel_rfl,by kernel_rfl,by kernel_rfl,by kernel_rfl⟩ (Lib.laidMet.reads h (.tail _ (.tail _ (.tail _ (.head _))))) (Lib.laidMet.reads h (.tail _ (.tail _ (.head _))))
theorem Je{W:World}(h:laidMetH Tryz.prog Rows.namesBackUptoRow.laid W):∀j,j<13->W.cell? ⟨3,j,none⟩=some (.string (opAt j)):=by
 rw[Fa,MakeChecks.laidMetH_plain _ _ _ (by kernel_rfl)] at h
 obtain⟨g,t,cs,fuel,p,hg,hty,hvar,hd⟩:=Lib.laidMet.reads h (.head _)
 obtain rfl:=agS ((show Tryz.prog.globalNamed "interdict/arith.names" = some 3 by kernel_rfl).symm.trans hg)
 obtain rfl:=agS ((show (Tryz.prog.globals[3]?).map (·.type)=some 259 by kernel_rfl).symm.trans hty)
 intro j hj;obtain⟨fuel',d,q,hdi,he⟩:=array_elem Tryz.underlying259 hd j hj;have hc:Tryz.prog.cellsOf 9=1:=by kernel_rfl
 rw[hc] at he;obtain⟨s',h1,h2,h3⟩:=DataW.trod_string Tryz.underlying9 he;have hcell:=World.var?_cell hg hvar j;rw[hcell,←Array.getElem?_toList];have e0:=congrArg (·[0]?) h1;simp only[Nat.mul_one,List.getElem?_take,List.getElem?_drop,Nat.add_zero] at e0;have e1:cs.toList[j]?=some (.string s'):=by simpa using e0
 rw[e1];have hd2:d=.lit (.string s'.data.toList):=congrArg Prod.fst h2;subst hd2
 have hs:s'.data.toList=(opAt j).data.toList:=by
  match j,hj with
  | 0,_ | 1,_ | 2,_ | 3,_ | 4,_ | 5,_ | 6,_ | 7,_ | 8,_ | 9,_ | 10,_ | 11,_ | 12,_=>simpa [opAt,iO] using hdi.symm
  | n+13,h=>omega
 rw[show s'=opAt j by rw[Go.Sx.ba_eq s',Go.Sx.ba_eq (opAt j),hs]]
theorem Sb{W:World}(h:laidMetH Tryz.prog Rows.namesBackUptoRow.laid W):∀j,j<64->W.cell? ⟨4,j,none⟩=some (.int .u8 (yS.getD j 0)):=by
 rw[Fa,MakeChecks.laidMetH_plain _ _ _ (by kernel_rfl)] at h
 obtain⟨g,t,cs,fuel,p,hg,hty,hvar,hd⟩:=Lib.laidMet.reads h (.tail _ (.head _))
 obtain rfl:=agS ((show Tryz.prog.globalNamed "math/bits.deBruijn64tab" = some 4 by kernel_rfl).symm.trans hg)
 obtain rfl:=agS ((show (Tryz.prog.globals[4]?).map (·.type)=some 266 by kernel_rfl).symm.trans hty)
 intro j hj;obtain⟨fuel',d,q,hdi,he⟩:=array_elem Tryz.underlying266 hd j hj;have hc:Tryz.prog.cellsOf 5=1:=by kernel_rfl
 rw[hc] at he;obtain⟨s',h1,h2,h3⟩:=DataW.trod_int Tryz.underlying5 he;have hcell:=World.var?_cell hg hvar j;rw[hcell,←Array.getElem?_toList];have e0:=congrArg (·[0]?) h1;simp only[Nat.mul_one,List.getElem?_take,List.getElem?_drop,Nat.add_zero] at e0;have e1:cs.toList[j]?=some (.int .u8 s'):=by simpa using e0
 rw[e1];have hd2:d=.lit (.int .u8 s'):=congrArg Prod.fst h2;subst hd2;have hl:(yS.map λz=>(DataW.lit (.int .u8 z):DataW Unit))[j]?=some (.lit (.int .u8 s')):=hdi
 rw[List.getElem?_map] at hl
 cases ht:yS[j]? with
 | none=>rw[ht] at hl;cases hl
 | some z=>
  rw[ht] at hl;simp only[Option.map_some,agR,DataW.lit.injEq,Lit.int.injEq,true_and] at hl;rw[agM,ht,←hl];rfl
theorem aam{W:World}(h:W.ShapedOpen Tryz.prog):∃m,W.cell? ⟨0,0,none⟩=some (.int .i64 m):=
 cell_of_shapedOpen_int (zero:=#[.int .i64 0]) (t:=3) h (agP (by kernel_rfl)) (by kernel_rfl) Z (by kernel_rfl) (by kernel_rfl) Tryz.underlying3
set_option maxRecDepth 100000 in
theorem byt:clB Tryz.prog 4096 281=true:=by kernel_rfl
theorem reads(os:Os){H:Type}(enc:TypeId×Value->H):∃places,DataW.whole enc Tryz.prog ((Dt os).forCall (λ_ _=>0) ⟨#[],#[.agg #[.slice none 0 0,.slice none 0 0,.slice none 0 0,.slice none 0 0,.int .i64 0],.agg #[.slice none 0 0,.slice none 0 0,.int .i64 0]],[]⟩).memory Tryz.f6.params.toList Rows.namesBackSpec.vars false (#[.agg #[.slice none 0 0,.slice none 0 0,.slice none 0 0,.slice none 0 0,.int .i64 0],.agg #[.slice none 0 0,.slice none 0 0,.int .i64 0]]:Array Value).toList 8=some ([.agg [.nil,.nil,.nil,.nil,.lit (.int .i64 0)],.agg [.nil,.nil,.lit (.int .i64 0)]],[],places):=
 ⟨[],by kernel_rfl⟩
set_option maxRecDepth 100000 in
theorem lifted(os:Os)(started:os.Started)(H:Type)(enc:TypeId×Value->H)(Fi:Stop.Interp) :
  ReturnsInHanded {} Tryz.checked os 6 .any ((Rows.OpenSpec.upto Rows.namesBackSpec).preRow enc Tryz.prog Tryz.f6 Rows.namesBackUptoRow.domain false Rows.namesBackUptoRow.laid) (((Rows.OpenSpec.upto Rows.namesBackSpec).at Fi).post enc Tryz.prog Tryz.f6 false true false false):=by
 obtain⟨places,hx⟩:=reads os enc
 refine returnsInHanded_of_row (C:=Tryz.checked) (s:=Rows.OpenSpec.upto Rows.namesBackSpec) own started (by kernel_rfl) Tryz.func6
  (witness_row_at (enc:=enc) (C:=Tryz.checked) false (Dt os) #[.agg #[.slice none 0 0,.slice none 0 0,.slice none 0 0,.slice none 0 0,.int .i64 0],.agg #[.slice none 0 0,.slice none 0 0,.int .i64 0]] Z (by kernel_rfl) (by kernel_rfl) (by kernel_rfl)
   (OpenSpec.preRow_of_cond 8 hx (by kernel_rfl) (λk hk=>by cases hk;kernel_rfl) (by kernel_rfl) (aal os _))) ?_
 intro W base args ds gs before hval0 hW hcnd hk0 hsz hL hshape _;have hval:∀(j:Nat) t v,Tryz.f6.params[j]?=some t->args[j]?=some v->Value.okWide Tryz.prog W .any base t v:=hval0;have hW':=hW;obtain⟨p,q,hA0,hV,rfl,hfz,hnd⟩:=hW;have hA:DataW.TrodAll enc Tryz.prog W 0 (λ_=>true) true Tryz.f6.params.toList args.toList ds p:=hA0
 rw[Tryz.params6] at hA hval;obtain⟨v0,vs0,d0,ds0,p0,q0,hargs,rfl,rfl,h0,r0⟩:=trodAll_cons hA;obtain⟨v1,vs1,d1,ds1,p1,q1,rfl,rfl,rfl,h1,r1⟩:=trodAll_cons r0;obtain⟨rfl,rfl,rfl⟩:=trodAll_nil r1;obtain rfl:args=#[v0,v1]:=by cases args;simp_all
 obtain⟨rfl,rfl⟩:=trodVars_none hV;have hbk:Rows.uptoBulkAll ([d0,d1]++[])≤1048576:=agP (hk0 _ Z);simp only[List.cons_append,List.nil_append,Rows.uptoBulkAll] at hbk;have s0:∀n∈DataW.weights Tryz.prog 26 d0,n≤wz:=BO (B:=4096) (by decide) byt (by decide) (K:=1048576) (by omega)
 obtain⟨cs0,ds0',rfl,c0,e0⟩:=DY 20 (hval 0 26 v0 Z Z) h0 Tryz.underlying26 (by kernel_rfl:uj Tryz.prog 20 26=some acu) s0
 obtain⟨a0,w0,g0⟩:=WO (by decide:wz≤reachBytes) (ρ:=λ_=>.bool true) c0 e0
 have s1:∀n∈DataW.weights Tryz.prog 30 d1,n≤wz:=BO (B:=4096) (by decide) byt (by decide) (K:=1048576) (by omega)
 obtain⟨cs1,ds1',rfl,c1,e1⟩:=DY 20 (hval 1 30 v1 Z Z) h1 Tryz.underlying30 (by kernel_rfl:uj Tryz.prog 20 30=some Z5) s1
 obtain⟨a1,w1,g1⟩:=WV (ρ:=λ_=>.bool true) c1 e1
 clear hA0 hval0
 simp only[List.append_nil] at hW';refine (aG.law (Xa a0 a1 w0 w1) (vals:=[.agg cs0.toArray,.agg cs1.toArray]) Z (MX (LK hL) (Je hL) (Sb hL) (aam hshape)) ⟨g0,g1,tR⟩).mono λe W' ⟨he,hg⟩=>?_
 subst he;have post:Rows.namesBackSpec.post enc Tryz.prog Tryz.f6 false true false false W #[.agg cs0.toArray,.agg cs1.toArray] (.bool true) W':=⟨_,_,_,[],_,[],hW',trodAll_mk1 (shut_bool Tryz.underlying4 _),(trodAll_cons_mk (Below.trod lies (by kernel_rfl) (agP (by kernel_rfl)) h0 hg (λx hx=>by simpa using hW'.lt x (by simp [hx]))) (trodAll_cons_mk (Below.trod lies (by kernel_rfl) (agP (by kernel_rfl)) h1 hg (λx hx=>by simpa using hW'.lt x (by simp [hx]))) trodAll_mk0)),rfl,hg.frame _,λh=>by cases h⟩
 exact⟨_,Z,post⟩
theorem over:Rows.namesBackUptoRow.holds Tryz.pinned (Rows.OpenSpec.upto Rows.namesBackSpec):=
 OpenClaim.holds_of_cond 6 Tryz.f6 Z Z Z Z Z Z Z ⟨Z,Z,Z,Z,Z⟩ Z Z Z Z Z (by kernel_rfl) Tryz.func6 (by kernel_rfl)
  (agP (by kernel_rfl)) (by unfold Func.isWrapper;first | (rw[if_pos (by decide +kernel)];kernel_rfl) | (rw[if_neg (by decide +kernel)];exact⟨Z,Z⟩))
  (λos started H enc _ Fi=>by rw[OpenClaim.pre_eq_preRow];exact lifted os started H enc Fi)
theorem proved:Rows.NamesBackUptoCardSaid:=
 Claim7.holds_tied_plain_at .later [] Rows.namesBackUptoCard.laidKinds true Rows.namesBackUptoCard.stood.harness Rows.namesBackUptoCard.stood.looks
  over (λ_ h=>by cases h) (by kernel_rfl) (λ_ h=>by cases h) namesBackUpto_row_tie rfl ⟨rfl,rfl⟩ (by kernel_rfl) rfl
  (λf fn hf hfn=>by
   obtain rfl:f=6:=agS ((show Tryz.prog.funcNamed "interdict/interdictlaw09.NamesBack" = some 6 by kernel_rfl).symm.trans hf) |>.symm
   obtain rfl:fn=Tryz.f6:=(agS (Tryz.func6.symm.trans hfn)).symm
   exact⟨by kernel_rfl,λj t ht=>by
    rw[Tryz.params6] at ht;have hm:t∈[26,30]:=by simpa using Array.mem_of_getElem? ht
    have hall:([26,30].all λu=>!Tryz.prog.wantsStandIn u)=true:=by kernel_rfl
    exact (show Tryz.prog.wantsStandIn t=false by simpa using List.all_eq_true.1 hall t hm)⟩)
  (by kernel_rfl)
end Go.Proofs.YtojhdmfkfkfcbaaGreatDoor.namesBack
