import Derived.Test.YtojhdmfkfkfcbaaGreatDoorRows
import Derived.Test.YtojhdmfkfkfcbaaGreatDoorCards
import Derived.Test.YtojhdmfkfkfcbaaGreatDoorTie
import Derived.WalkKit
import Derived.ProofKit
import Derived.OpenShut
import Derived.ShutString
import Derived.Below
import Derived.Handed
import Derived.MakeChecks
import Derived.LaidHandle
import Derived.LaidLaws
import Derived.SizedLaws
import Derived.SevenTiedAt
import Derived.Lib.LaidIn
import Derived.Lib.LaidU8T
import Derived.Carry
import Derived.Shelf.Vars
import Derived.Test.YtojhdmfkfkfcbaaGreatDoorMH
import Derived.Test.YtojhdmfkfkfcbaaGreatDoorMI
namespace Go.Proofs.YtojhdmfkfkfcbaaGreatDoor.namesRenamed
open Go.ChangeShapes Go.WideShapes Go.ChangeAt Go.RowKit
open Go.ChangeMaps (open_string shut_string)
open Go.Shelf Go.Lib Go.Sx
set_option linter.unusedVariables false
theorem own:ownKnob Tryz.prog.godebug=none:=by kernel_rfl
theorem lies:laidOutB Tryz.prog=true:=by kernel_rfl
theorem DC:Rows.namesRenamedRow.laid=[("interdict/arith.names",Rows.laid_interdict_arith_names),("math/bits.deBruijn64tab",Rows.laid_math_bits_deBruijn64tab),("unicode/utf8.acceptRanges",Lib.acceptData),("unicode/utf8.first",Lib.firstData)]:=by kernel_rfl
noncomputable def IQ (os:Os):World:=
 let w0:=World.holding Tryz.prog os ⟨#[],#[],[]⟩
 let put (h:Array Obj) (g:Nat) (cs:Array Value):Array Obj:=h.modify g fun
  | .cells _ t frozen=>.cells cs t frozen
  | o=>o
 let h1:=put w0.heap 1 (Lib.firstTab.map fun z=>Value.int .u8 z).toArray
 let h2:=put h1 2 ((List.range 16).flatMap fun i=>[Value.int .u8 (Lib.accLo i),Value.int .u8 (Lib.accHi i)]).toArray
 let h3:=put h2 3 ((List.range 13).map fun j=>Value.string (opAt j)).toArray
 let h4:=put h3 4 (xB.map fun z=>Value.int .u8 z).toArray
 {w0 with heap:=h4}
theorem Xe (os:Os) (args:Array Value):laidMetH Tryz.prog Rows.namesRenamedRow.laid ((IQ os).forCall (fun _ _=>0) ⟨#[],args,[]⟩).memory:=by
 rw[DC,MakeChecks.laidMetH_plain _ _ _ (by kernel_rfl)]
 exact (LaidIn.of_run (l:=[("interdict/arith.names",Rows.laid_interdict_arith_names),("math/bits.deBruijn64tab",Rows.laid_math_bits_deBruijn64tab),("unicode/utf8.acceptRanges",Lib.acceptData),("unicode/utf8.first",Lib.firstData)]) [3,4,1,2] 8 (by kernel_rfl) (by kernel_rfl) (by kernel_rfl) (by kernel_rfl)).met
theorem J9 {W:World} (h:laidMetH Tryz.prog Rows.namesRenamedRow.laid W):Lib.Utf8Tabs 1 2 W:=by
 rw[DC,MakeChecks.laidMetH_plain _ _ _ (by kernel_rfl)] at h
 exact utf8Tabs_of_readsT (U8Types.of260 Tryz.lays260) ⟨by kernel_rfl,by kernel_rfl,by kernel_rfl,by kernel_rfl,by kernel_rfl,by kernel_rfl,by kernel_rfl⟩ (Lib.laidMet.reads h (.tail _ (.tail _ (.tail _ (.head _))))) (Lib.laidMet.reads h (.tail _ (.tail _ (.head _))))
theorem GK {W:World} (h:laidMetH Tryz.prog Rows.namesRenamedRow.laid W):∀j,j<13->W.cell? ⟨3,j,none⟩=some (.string (opAt j)):=by
 rw[DC,MakeChecks.laidMetH_plain _ _ _ (by kernel_rfl)] at h
 obtain⟨g,t,cs,fuel,p,hg,hty,hvar,hd⟩:=Lib.laidMet.reads h (.head _)
 obtain rfl:=adl ((show Tryz.prog.globalNamed "interdict/arith.names" = some 3 by kernel_rfl).symm.trans hg)
 obtain rfl:=adl ((show (Tryz.prog.globals[3]?).map (·.type)=some 259 by kernel_rfl).symm.trans hty)
 intro j hj
 obtain⟨fuel',d,q,hdi,he⟩:=array_elem Tryz.underlying259 hd j hj
 have hc:Tryz.prog.cellsOf 9=1:=by kernel_rfl
 rw[hc] at he
 obtain⟨s',h1,h2,h3⟩:=DataW.trod_string Tryz.underlying9 he
 have hcell:=World.var?_cell hg hvar j
 rw[hcell,←Array.getElem?_toList]
 have e0:=congrArg (·[0]?) h1
 simp only[Nat.mul_one,List.getElem?_take,List.getElem?_drop,Nat.add_zero] at e0
 have e1:cs.toList[j]?=some (.string s'):=by simpa using e0
 rw[e1]
 have hd2:d=.lit (.string s'.data.toList):=congrArg Prod.fst h2
 subst hd2
 have hs:s'.data.toList=(opAt j).data.toList:=by
  match j,hj with
  | 0,_=>simpa [opAt,ig] using hdi.symm
  | 1,_=>simpa [opAt,ig] using hdi.symm
  | 2,_=>simpa [opAt,ig] using hdi.symm
  | 3,_=>simpa [opAt,ig] using hdi.symm
  | 4,_=>simpa [opAt,ig] using hdi.symm
  | 5,_=>simpa [opAt,ig] using hdi.symm
  | 6,_=>simpa [opAt,ig] using hdi.symm
  | 7,_=>simpa [opAt,ig] using hdi.symm
  | 8,_=>simpa [opAt,ig] using hdi.symm
  | 9,_=>simpa [opAt,ig] using hdi.symm
  | 10,_=>simpa [opAt,ig] using hdi.symm
  | 11,_=>simpa [opAt,ig] using hdi.symm
  | 12,_=>simpa [opAt,ig] using hdi.symm
  | n+13,h=>omega
 rw[show s'=opAt j by rw[Go.Sx.ba_eq s',Go.Sx.ba_eq (opAt j),hs]]
theorem Pw {W:World} (h:laidMetH Tryz.prog Rows.namesRenamedRow.laid W):∀j,j<64->W.cell? ⟨4,j,none⟩=some (.int .u8 (xB.getD j 0)):=by
 rw[DC,MakeChecks.laidMetH_plain _ _ _ (by kernel_rfl)] at h
 obtain⟨g,t,cs,fuel,p,hg,hty,hvar,hd⟩:=Lib.laidMet.reads h (.tail _ (.head _))
 obtain rfl:=adl ((show Tryz.prog.globalNamed "math/bits.deBruijn64tab" = some 4 by kernel_rfl).symm.trans hg)
 obtain rfl:=adl ((show (Tryz.prog.globals[4]?).map (·.type)=some 266 by kernel_rfl).symm.trans hty)
 intro j hj
 obtain⟨fuel',d,q,hdi,he⟩:=array_elem Tryz.underlying266 hd j hj
 have hc:Tryz.prog.cellsOf 5=1:=by kernel_rfl
 rw[hc] at he
 obtain⟨s',h1,h2,h3⟩:=DataW.trod_int Tryz.underlying5 he
 have hcell:=World.var?_cell hg hvar j
 rw[hcell,←Array.getElem?_toList]
 have e0:=congrArg (·[0]?) h1
 simp only[Nat.mul_one,List.getElem?_take,List.getElem?_drop,Nat.add_zero] at e0
 have e1:cs.toList[j]?=some (.int .u8 s'):=by simpa using e0
 rw[e1]
 have hd2:d=.lit (.int .u8 s'):=congrArg Prod.fst h2
 subst hd2
 have hl:(xB.map fun z=>(DataW.lit (.int .u8 z):DataW Unit))[j]?=some (.lit (.int .u8 s')):=hdi
 rw[List.getElem?_map] at hl
 cases ht:xB[j]? with
 | none=>rw[ht] at hl;cases hl
 | some z=>
  rw[ht] at hl
  simp only[Option.map_some,adk,DataW.lit.injEq,Lit.int.injEq,true_and] at hl
  rw[adf,ht,←hl];rfl
theorem Xf {W:World} (h:W.ShapedOpen Tryz.prog):∃m,W.cell? ⟨0,0,none⟩=some (.int .i64 m):=
 cell_of_shapedOpen_int (zero:=#[.int .i64 0]) (t:=3) h (adi (by kernel_rfl)) (by kernel_rfl) rfl (by kernel_rfl) (by kernel_rfl) Tryz.underlying3
set_option maxRecDepth 100000 in
theorem lifted (os:Os) (started:os.Started) (H:Type) (enc:TypeId×Value->H) :
  ReturnsInHanded {} Tryz.checked os 5 .any (fun w args=>(Rows.namesRenamedSpec.pre enc Tryz.prog Tryz.f5 Rows.namesRenamedRow.domain false w args∧laidMetH Tryz.prog Rows.namesRenamedRow.laid w)∧sizedMet enc Tryz.prog Tryz.f5 (OpenSpec.ofChange Rows.namesRenamedSpec) false w args)
   (Rows.namesRenamedSpec.post enc Tryz.prog Tryz.f5 false true false false):=by
 refine Ga (C:=Tryz.checked) (X:=fun w _=>laidMetH Tryz.prog Rows.namesRenamedRow.laid w) (fun _ _ _ hh h=>h.of_heap hh) own started (by kernel_rfl) Tryz.func5
  (ChangeSpec.witness_at (enc:=enc) (C:=Tryz.checked) (os:=os) (X:=fun w _=>laidMetH Tryz.prog Rows.namesRenamedRow.laid w) false (IQ os) #[.string ByteArray.empty, .string ByteArray.empty] 8 rfl (by kernel_rfl) (by kernel_rfl) (by kernel_rfl) (by kernel_rfl) (by kernel_rfl) (Xe os _)) ?_
 intro W base args ds gs before hshape hval0 hW hcnd hsz hL _
 have hval:∀(j:Nat) t v,Tryz.f5.params[j]?=some t->args[j]?=some v->Value.okWide Tryz.prog W .any base t v:=hval0
 have hW':=hW
 obtain⟨p,q,hA0,hV,rfl,hfz,hnd⟩:=hW
 have hA:DataW.TrodAll enc Tryz.prog W 0 (fun _=>true) true Tryz.f5.params.toList args.toList ds p:=hA0
 rw[Tryz.params5] at hA hval
 obtain⟨v0,vs0,d0,ds0,p0,q0,hargs,rfl,rfl,h0,r0⟩:=trodAll_cons hA
 obtain⟨v1,vs1,d1,ds1,p1,q1,rfl,rfl,rfl,h1,r1⟩:=trodAll_cons r0
 obtain⟨rfl,rfl,rfl⟩:=trodAll_nil r1
 obtain rfl:args=#[v0,v1]:=by cases args;simp_all
 obtain⟨rfl,rfl⟩:=trodVars_none hV
 have s0:∀n∈DataW.weights Tryz.prog 9 d0,n≤reachBytes:=fun n hn=>adi (List.all_eq_true.1 hsz n (DataW.weights_mem_each (j:=0) rfl rfl n hn))
 obtain⟨x0,c0,e0⟩:=G7 8 (hval 0 9 v0 rfl rfl) h0 (.inr (.inr (.inl Tryz.underlying9))) (by kernel_rfl:sj Tryz.prog 8 9=some [.str]) s0
 obtain⟨a0,rfl,w0,z0⟩:=KN c0
 have g0:=e0
 have s1:∀n∈DataW.weights Tryz.prog 9 d1,n≤reachBytes:=fun n hn=>adi (List.all_eq_true.1 hsz n (DataW.weights_mem_each (j:=1) rfl rfl n hn))
 obtain⟨x1,c1,e1⟩:=G7 8 (hval 1 9 v1 rfl rfl) h1 (.inr (.inr (.inl Tryz.underlying9))) (by kernel_rfl:sj Tryz.prog 8 9=some [.str]) s1
 obtain⟨a1,rfl,w1,z1⟩:=KN c1
 have g1:=e1
 clear hA0 hval0
 simp only[List.append_nil] at hW'
 refine (aI.law (GJ a0 a1) (vals:=[v0,v1]) rfl (K3 (J9 hL) (GK hL) (Pw hL) (Xf hshape)) ⟨g0,g1,tR⟩).mono fun e W' ⟨he,hg⟩=>?_
 subst he
 exact⟨_,rfl,_,_,_,[],_,[],hW',trodAll_mk1 (shut_bool Tryz.underlying4 _),(trodAll_cons_mk (Below.trod lies (by kernel_rfl) (adi (by kernel_rfl)) h0 hg (fun x hx=>by simpa using hW'.lt x (by simp [hx]))) (trodAll_cons_mk (Below.trod lies (by kernel_rfl) (adi (by kernel_rfl)) h1 hg (fun x hx=>by simpa using hW'.lt x (by simp [hx]))) trodAll_mk0)),rfl,hg.frame _,fun h=>by cases h⟩
theorem over:Rows.namesRenamedRow.holds Tryz.pinned (OpenSpec.ofChange Rows.namesRenamedSpec):=
 OpenClaim.holds_of_wide 5 Tryz.f5 rfl rfl rfl rfl rfl rfl rfl ⟨rfl,rfl,rfl,rfl,rfl⟩ rfl rfl rfl rfl rfl (by kernel_rfl) Tryz.func5 (by kernel_rfl)
  (adi (by kernel_rfl)) (by unfold Func.isWrapper;first | (rw[if_pos (by decide +kernel)];kernel_rfl) | (rw[if_neg (by decide +kernel)];exact⟨rfl,rfl⟩))
  (fun os started H enc _=>lifted os started H enc)
theorem proved:Rows.NamesRenamedCardSaid:=
 Claim7.holds_tied_plain_at .later [] Rows.namesRenamedCard.laidKinds true Rows.namesRenamedCard.stood.harness Rows.namesRenamedCard.stood.looks
  over (fun _ h=>by cases h) (by kernel_rfl) (fun _ h=>by cases h) namesRenamed_row_tie rfl ⟨rfl,rfl⟩ (by kernel_rfl) rfl
  (fun f fn hf hfn=>by
   obtain rfl:f=5:=adl ((show Tryz.prog.funcNamed "interdict/interdictlaw09.NamesRenamed" = some 5 by kernel_rfl).symm.trans hf) |>.symm
   obtain rfl:fn=Tryz.f5:=(adl (Tryz.func5.symm.trans hfn)).symm
   exact⟨by kernel_rfl,fun j t ht=>by
    rw[Tryz.params5] at ht
    have hm:t∈[9,9]:=by simpa using Array.mem_of_getElem? ht
    have hall:([9,9].all fun u=>!Tryz.prog.wantsStandIn u)=true:=by kernel_rfl
    exact (show Tryz.prog.wantsStandIn t=false by simpa using List.all_eq_true.1 hall t hm)⟩)
  (by kernel_rfl)
end Go.Proofs.YtojhdmfkfkfcbaaGreatDoor.namesRenamed
