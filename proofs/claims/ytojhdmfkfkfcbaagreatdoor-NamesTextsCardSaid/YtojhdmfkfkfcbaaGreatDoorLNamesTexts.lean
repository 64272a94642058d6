import Derived.Test.YtojhdmfkfkfcbaaGreatDoorRows
import Derived.Test.YtojhdmfkfkfcbaaGreatDoorCards
import Derived.Test.YtojhdmfkfkfcbaaGreatDoorTie
import Derived.WalkKit
import Derived.ProofKit
import Derived.OpenShut
import Derived.ShutString
import Derived.Below
import Derived.Handed
import Derived.MakeChecks
import Derived.LaidHandle
import Derived.LaidLaws
import Derived.SizedLaws
import Derived.SevenTiedAt
import Derived.Lib.LaidIn
import Derived.Lib.LaidU8T
import Derived.Carry
import Derived.Shelf.Vars
import Derived.Test.YtojhdmfkfkfcbaaGreatDoorMH
namespace Go.Proofs.YtojhdmfkfkfcbaaGreatDoor.namesTexts
open Go.ChangeShapes Go.WideShapes Go.ChangeAt Go.RowKit
open Go.ChangeMaps (open_string shut_string)
open Go.Shelf Go.Lib Go.Sx
set_option linter.unusedVariables false
theorem own:ownKnob Tryz.prog.godebug=none:=by kernel_rfl
theorem lies:laidOutB Tryz.prog=true:=by kernel_rfl
theorem laid_is:Rows.namesTextsRow.laid=[("interdict/arith.names",Rows.laid_interdict_arith_names),("math/bits.deBruijn64tab",Rows.laid_math_bits_deBruijn64tab),("unicode/utf8.acceptRanges",Lib.acceptData),("unicode/utf8.first",Lib.firstData)]:=by kernel_rfl
noncomputable def laidWorld (os:Os):World:=
 let w0:=World.holding Tryz.prog os ⟨#[],#[],[]⟩
 let put (h:Array Obj) (g:Nat) (cs:Array Value):Array Obj:=h.modify g fun
  | .cells _ t frozen=>.cells cs t frozen
  | o=>o
 let h1:=put w0.heap 1 (Lib.firstTab.map fun z=>Value.int .u8 z).toArray
 let h2:=put h1 2 ((List.range 16).flatMap fun i=>[Value.int .u8 (Lib.accLo i),Value.int .u8 (Lib.accHi i)]).toArray
 let h3:=put h2 3 ((List.range 13).map fun j=>Value.string (opAt j)).toArray
 let h4:=put h3 4 (tzTab.map fun z=>Value.int .u8 z).toArray
 {w0 with heap:=h4}
theorem laid_met (os:Os) (args:Array Value):laidMetH Tryz.prog Rows.namesTextsRow.laid ((laidWorld os).forCall (fun _ _=>0) ⟨#[],args,[]⟩).memory:=by
 rw[laid_is,MakeChecks.laidMetH_plain _ _ _ (by kernel_rfl)]
 exact (LaidIn.of_run (l:=[("interdict/arith.names",Rows.laid_interdict_arith_names),("math/bits.deBruijn64tab",Rows.laid_math_bits_deBruijn64tab),("unicode/utf8.acceptRanges",Lib.acceptData),("unicode/utf8.first",Lib.firstData)]) [3,4,1,2] 8 (by kernel_rfl) (by kernel_rfl) (by kernel_rfl) (by kernel_rfl)).met
theorem tabs_of_laid {W:World} (h:laidMetH Tryz.prog Rows.namesTextsRow.laid W):Lib.Utf8Tabs 1 2 W:=by
 rw[laid_is,MakeChecks.laidMetH_plain _ _ _ (by kernel_rfl)] at h
 exact utf8Tabs_of_readsT (U8Types.of260 Tryz.lays260) ⟨by kernel_rfl,by kernel_rfl,by kernel_rfl,by kernel_rfl,by kernel_rfl,by kernel_rfl,by kernel_rfl⟩ (Lib.laidMet.reads h (.tail _ (.tail _ (.tail _ (.head _))))) (Lib.laidMet.reads h (.tail _ (.tail _ (.head _))))
theorem names_of_laid {W:World} (h:laidMetH Tryz.prog Rows.namesTextsRow.laid W):∀j,j<13->W.cell? ⟨3,j,none⟩=some (.string (opAt j)):=by
 rw[laid_is,MakeChecks.laidMetH_plain _ _ _ (by kernel_rfl)] at h
 obtain⟨g,t,cs,fuel,p,hg,hty,hvar,hd⟩:=Lib.laidMet.reads h (.head _)
 obtain rfl:=Option.some.inj ((show Tryz.prog.globalNamed "interdict/arith.names" = some 3 by kernel_rfl).symm.trans hg)
 obtain rfl:=Option.some.inj ((show (Tryz.prog.globals[3]?).map (·.type)=some 259 by kernel_rfl).symm.trans hty)
 intro j hj
 obtain⟨fuel',d,q,hdi,he⟩:=array_elem Tryz.underlying259 hd j hj
 have hc:Tryz.prog.cellsOf 9=1:=by kernel_rfl
 rw[hc] at he
 obtain⟨s',h1,h2,h3⟩:=DataW.trod_string Tryz.underlying9 he
 have hcell:=World.var?_cell hg hvar j
 rw[hcell,←Array.getElem?_toList]
 have e0:=congrArg (·[0]?) h1
 simp only[Nat.mul_one,List.getElem?_take,List.getElem?_drop,Nat.add_zero] at e0
 have e1:cs.toList[j]?=some (.string s'):=by simpa using e0
 rw[e1]
 have hd2:d=.lit (.string s'.data.toList):=congrArg Prod.fst h2
 subst hd2
 have hs:s'.data.toList=(opAt j).data.toList:=by
  match j,hj with
  | 0,_=>simpa [opAt,opNames] using hdi.symm
  | 1,_=>simpa [opAt,opNames] using hdi.symm
  | 2,_=>simpa [opAt,opNames] using hdi.symm
  | 3,_=>simpa [opAt,opNames] using hdi.symm
  | 4,_=>simpa [opAt,opNames] using hdi.symm
  | 5,_=>simpa [opAt,opNames] using hdi.symm
  | 6,_=>simpa [opAt,opNames] using hdi.symm
  | 7,_=>simpa [opAt,opNames] using hdi.symm
  | 8,_=>simpa [opAt,opNames] using hdi.symm
  | 9,_=>simpa [opAt,opNames] using hdi.symm
  | 10,_=>simpa [opAt,opNames] using hdi.symm
  | 11,_=>simpa [opAt,opNames] using hdi.symm
  | 12,_=>simpa [opAt,opNames] using hdi.symm
  | n+13,h=>omega
 rw[show s'=opAt j by rw[Go.Sx.ba_eq s',Go.Sx.ba_eq (opAt j),hs]]
theorem tz_of_laid {W:World} (h:laidMetH Tryz.prog Rows.namesTextsRow.laid W):∀j,j<64->W.cell? ⟨4,j,none⟩=some (.int .u8 (tzTab.getD j 0)):=by
 rw[laid_is,MakeChecks.laidMetH_plain _ _ _ (by kernel_rfl)] at h
 obtain⟨g,t,cs,fuel,p,hg,hty,hvar,hd⟩:=Lib.laidMet.reads h (.tail _ (.head _))
 obtain rfl:=Option.some.inj ((show Tryz.prog.globalNamed "math/bits.deBruijn64tab" = some 4 by kernel_rfl).symm.trans hg)
 obtain rfl:=Option.some.inj ((show (Tryz.prog.globals[4]?).map (·.type)=some 266 by kernel_rfl).symm.trans hty)
 intro j hj
 obtain⟨fuel',d,q,hdi,he⟩:=array_elem Tryz.underlying266 hd j hj
 have hc:Tryz.prog.cellsOf 5=1:=by kernel_rfl
 rw[hc] at he
 obtain⟨s',h1,h2,h3⟩:=DataW.trod_int Tryz.underlying5 he
 have hcell:=World.var?_cell hg hvar j
 rw[hcell,←Array.getElem?_toList]
 have e0:=congrArg (·[0]?) h1
 simp only[Nat.mul_one,List.getElem?_take,List.getElem?_drop,Nat.add_zero] at e0
 have e1:cs.toList[j]?=some (.int .u8 s'):=by simpa using e0
 rw[e1]
 have hd2:d=.lit (.int .u8 s'):=congrArg Prod.fst h2
 subst hd2
 have hl:(tzTab.map fun z=>(DataW.lit (.int .u8 z):DataW Unit))[j]?=some (.lit (.int .u8 s')):=hdi
 rw[List.getElem?_map] at hl
 cases ht:tzTab[j]? with
 | none=>rw[ht] at hl;cases hl
 | some z=>
  rw[ht] at hl
  simp only[Option.map_some,Option.some.injEq,DataW.lit.injEq,Lit.int.injEq,true_and] at hl
  rw[List.getD_eq_getElem?_getD,ht,←hl];rfl
theorem max_some {W:World} (h:W.ShapedOpen Tryz.prog):∃m,W.cell? ⟨0,0,none⟩=some (.int .i64 m):=
 cell_of_shapedOpen_int (zero:=#[.int .i64 0]) (t:=3) h (of_decide_eq_true (by kernel_rfl)) (by kernel_rfl) rfl (by kernel_rfl) (by kernel_rfl) Tryz.underlying3
set_option maxRecDepth 100000 in
theorem lifted (os:Os) (started:os.Started) (H:Type) (enc:TypeId×Value->H) :
  ReturnsInHanded {} Tryz.checked os 4 .any (fun w args=>(Rows.namesTextsSpec.pre enc Tryz.prog Tryz.f4 Rows.namesTextsRow.domain false w args∧laidMetH Tryz.prog Rows.namesTextsRow.laid w)∧sizedMet enc Tryz.prog Tryz.f4 (OpenSpec.ofChange Rows.namesTextsSpec) false w args)
   (Rows.namesTextsSpec.post enc Tryz.prog Tryz.f4 false true false false):=by
 refine returns_shaped (C:=Tryz.checked) (X:=fun w _=>laidMetH Tryz.prog Rows.namesTextsRow.laid w) (fun _ _ _ hh h=>h.of_heap hh) own started (by kernel_rfl) Tryz.func4
  (ChangeSpec.witness_at (enc:=enc) (C:=Tryz.checked) (os:=os) (X:=fun w _=>laidMetH Tryz.prog Rows.namesTextsRow.laid w) false (laidWorld os) #[.string ByteArray.empty, .string ByteArray.empty] 8 rfl (by kernel_rfl) (by kernel_rfl) (by kernel_rfl) (by kernel_rfl) (by kernel_rfl) (laid_met os _)) ?_
 intro W base args ds gs before hshape hval0 hW hcnd hsz hL _
 have hval:∀(j:Nat) t v,Tryz.f4.params[j]?=some t->args[j]?=some v->Value.okWide Tryz.prog W .any base t v:=hval0
 have hW':=hW
 obtain⟨p,q,hA0,hV,rfl,hfz,hnd⟩:=hW
 have hA:DataW.TrodAll enc Tryz.prog W 0 (fun _=>true) true Tryz.f4.params.toList args.toList ds p:=hA0
 rw[Tryz.params4] at hA hval
 obtain⟨v0,vs0,d0,ds0,p0,q0,hargs,rfl,rfl,h0,r0⟩:=trodAll_cons hA
 obtain⟨v1,vs1,d1,ds1,p1,q1,rfl,rfl,rfl,h1,r1⟩:=trodAll_cons r0
 obtain⟨rfl,rfl,rfl⟩:=trodAll_nil r1
 obtain rfl:args=#[v0,v1]:=by cases args;simp_all
 obtain⟨rfl,rfl⟩:=trodVars_none hV
 have s0:∀n∈DataW.weights Tryz.prog 9 d0,n≤reachBytes:=fun n hn=>of_decide_eq_true (List.all_eq_true.1 hsz n (DataW.weights_mem_each (j:=0) rfl rfl n hn))
 obtain⟨x0,c0,e0⟩:=open_cell 8 (hval 0 9 v0 rfl rfl) h0 (.inr (.inr (.inl Tryz.underlying9))) (by kernel_rfl:flatTy Tryz.prog 8 9=some [.str]) s0
 obtain⟨a0,rfl,w0,z0⟩:=conf_str c0
 have g0:=e0
 have s1:∀n∈DataW.weights Tryz.prog 9 d1,n≤reachBytes:=fun n hn=>of_decide_eq_true (List.all_eq_true.1 hsz n (DataW.weights_mem_each (j:=1) rfl rfl n hn))
 obtain⟨x1,c1,e1⟩:=open_cell 8 (hval 1 9 v1 rfl rfl) h1 (.inr (.inr (.inl Tryz.underlying9))) (by kernel_rfl:flatTy Tryz.prog 8 9=some [.str]) s1
 obtain⟨a1,rfl,w1,z1⟩:=conf_str c1
 have g1:=e1
 clear hA0 hval0
 simp only[List.append_nil] at hW'
 refine (Proc.law (texts9_spec a0 a1) (vals:=[v0,v1]) rfl (env_of_tabs (tabs_of_laid hL) (names_of_laid hL) (tz_of_laid hL) (max_some hshape)) ⟨g0,g1,tR⟩).mono fun e W' ⟨he,hg⟩=>?_
 subst he
 exact⟨_,rfl,_,_,_,[],_,[],hW',trodAll_mk1 (shut_bool Tryz.underlying4 _),(trodAll_cons_mk (Below.trod lies (by kernel_rfl) (of_decide_eq_true (by kernel_rfl)) h0 hg (fun x hx=>by simpa using hW'.lt x (by simp [hx]))) (trodAll_cons_mk (Below.trod lies (by kernel_rfl) (of_decide_eq_true (by kernel_rfl)) h1 hg (fun x hx=>by simpa using hW'.lt x (by simp [hx]))) trodAll_mk0)),rfl,hg.frame _,fun h=>by cases h⟩
theorem over:Rows.namesTextsRow.holds Tryz.pinned (OpenSpec.ofChange Rows.namesTextsSpec):=
 OpenClaim.holds_of_wide 4 Tryz.f4 rfl rfl rfl rfl rfl rfl rfl ⟨rfl,rfl,rfl,rfl,rfl⟩ rfl rfl rfl rfl rfl (by kernel_rfl) Tryz.func4 (by kernel_rfl)
  (of_decide_eq_true (by kernel_rfl)) (by unfold Func.isWrapper;first | (rw[if_pos (by decide +kernel)];kernel_rfl) | (rw[if_neg (by decide +kernel)];exact⟨rfl,rfl⟩))
  (fun os started H enc _=>lifted os started H enc)
theorem proved:Rows.NamesTextsCardSaid:=
 Claim7.holds_tied_plain_at .later [] Rows.namesTextsCard.laidKinds true Rows.namesTextsCard.stood.harness Rows.namesTextsCard.stood.looks
  over (fun _ h=>by cases h) (by kernel_rfl) (fun _ h=>by cases h) namesTexts_row_tie rfl ⟨rfl,rfl⟩ (by kernel_rfl) rfl
  (fun f fn hf hfn=>by
   obtain rfl:f=4:=Option.some.inj ((show Tryz.prog.funcNamed "interdict/interdictlaw09.NamesTexts" = some 4 by kernel_rfl).symm.trans hf) |>.symm
   obtain rfl:fn=Tryz.f4:=(Option.some.inj (Tryz.func4.symm.trans hfn)).symm
   exact⟨by kernel_rfl,fun j t ht=>by
    rw[Tryz.params4] at ht
    have hm:t∈[9,9]:=by simpa using Array.mem_of_getElem? ht
    have hall:([9,9].all fun u=>!Tryz.prog.wantsStandIn u)=true:=by kernel_rfl
    exact (show Tryz.prog.wantsStandIn t=false by simpa using List.all_eq_true.1 hall t hm)⟩)
  (by kernel_rfl)
end Go.Proofs.YtojhdmfkfkfcbaaGreatDoor.namesTexts
