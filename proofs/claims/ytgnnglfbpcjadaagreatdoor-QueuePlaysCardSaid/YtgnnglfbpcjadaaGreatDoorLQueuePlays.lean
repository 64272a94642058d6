/-
  FOR EVERY INPUT the law QueuePlays returns true, and its arguments read afterwards as before; what the card lists of the library's tables is tied. No condition of ours. The walk: a symbolic machine, proved sound over the model (the texts Sx1 on), goes through the code; the frame after the kit's worked rows.
-/
import Derived.Test.YtgnnglfbpcjadaaGreatDoorRows
import Derived.Test.YtgnnglfbpcjadaaGreatDoorCards
import Derived.Test.YtgnnglfbpcjadaaGreatDoorTie
import Derived.WalkKit
import Derived.ProofKit
import Derived.OpenShut
import Derived.ShutString
import Derived.Below
import Derived.Handed
import Derived.MakeChecks
import Derived.LaidHandle
import Derived.LaidLaws
import Derived.SizedLaws
import Derived.SevenTiedAt
import Derived.Lib.LaidIn
import Derived.Lib.LaidU8T
import Derived.Carry
import Derived.Shelf.Vars
import Derived.Test.YtgnnglfbpcjadaaGreatDoorMC
import Derived.Test.YtgnnglfbpcjadaaGreatDoorMD
namespace Go.Proofs.YtgnnglfbpcjadaaGreatDoor.queuePlays
open Go.ChangeShapes Go.WideShapes Go.ChangeAt Go.RowKit
open Go.ChangeMaps (open_string shut_string)
open Go.Shelf Go.Lib Go.Sx
set_option linter.unusedVariables false

theorem own : ownKnob Tryz.prog.godebug = none := by kernel_rfl
theorem lies : laidOutB Tryz.prog = true := by kernel_rfl
/-! ### What the tables hold. -/
theorem laid_is : Rows.queuePlaysRow.laid = [("math/bits.deBruijn64tab", Rows.laid_math_bits_deBruijn64tab), ("unicode/utf8.acceptRanges", Lib.acceptData), ("unicode/utf8.first", Lib.firstData)] := by kernel_rfl
noncomputable def laidWorld (os : Os) : World :=
  let w0 := World.holding Tryz.prog os ⟨#[], #[], []⟩
  let put (h : Array Obj) (g : Nat) (cs : Array Value) : Array Obj := h.modify g fun
    | .cells _ t frozen => .cells cs t frozen
    | o => o
  let h1 := put w0.heap 1 (Lib.firstTab.map fun z => Value.int .u8 z).toArray
  let h2 := put h1 2 ((List.range 16).flatMap fun i => [Value.int .u8 (Lib.accLo i), Value.int .u8 (Lib.accHi i)]).toArray
  let h3 := put h2 3 (tzTab.map fun z => Value.int .u8 z).toArray
  { w0 with heap := h3 }
theorem laid_met (os : Os) (args : Array Value) : laidMetH Tryz.prog Rows.queuePlaysRow.laid ((laidWorld os).forCall (fun _ _ => 0) ⟨#[], args, []⟩).memory := by
  rw [laid_is, MakeChecks.laidMetH_plain _ _ _ (by kernel_rfl)]
  exact (LaidIn.of_run (l := [("math/bits.deBruijn64tab", Rows.laid_math_bits_deBruijn64tab), ("unicode/utf8.acceptRanges", Lib.acceptData), ("unicode/utf8.first", Lib.firstData)]) [3, 1, 2] 8 (by kernel_rfl) (by kernel_rfl) (by kernel_rfl) (by kernel_rfl)).met
theorem tabs_of_laid {W : World} (h : laidMetH Tryz.prog Rows.queuePlaysRow.laid W) : Lib.Utf8Tabs 1 2 W := by
  rw [laid_is, MakeChecks.laidMetH_plain _ _ _ (by kernel_rfl)] at h
  exact utf8Tabs_of_readsT (U8Types.of260 Tryz.lays260) ⟨by kernel_rfl, by kernel_rfl, by kernel_rfl, by kernel_rfl, by kernel_rfl, by kernel_rfl, by kernel_rfl⟩ (Lib.laidMet.reads h (.tail _ (.tail _ (.head _)))) (Lib.laidMet.reads h (.tail _ (.head _)))
theorem tz_of_laid {W : World} (h : laidMetH Tryz.prog Rows.queuePlaysRow.laid W) : ∀ j, j < 64 → W.cell? ⟨3, j, none⟩ = some (.int .u8 (tzTab.getD j 0)) := by
  rw [laid_is, MakeChecks.laidMetH_plain _ _ _ (by kernel_rfl)] at h
  obtain ⟨g, t, cs, fuel, p, hg, hty, hvar, hd⟩ := Lib.laidMet.reads h (.head _)
  obtain rfl := Option.some.inj ((show Tryz.prog.globalNamed "math/bits.deBruijn64tab" = some 3 by kernel_rfl).symm.trans hg)
  obtain rfl := Option.some.inj ((show (Tryz.prog.globals[3]?).map (·.type) = some 164 by kernel_rfl).symm.trans hty)
  intro j hj
  obtain ⟨fuel', d, q, hdi, he⟩ := array_elem Tryz.underlying164 hd j hj
  have hc : Tryz.prog.cellsOf 5 = 1 := by kernel_rfl
  rw [hc] at he
  obtain ⟨s', h1, h2, h3⟩ := DataW.trod_int Tryz.underlying5 he
  have hcell := World.var?_cell hg hvar j
  rw [hcell, ← Array.getElem?_toList]
  have e0 := congrArg (·[0]?) h1
  simp only [Nat.mul_one, List.getElem?_take, List.getElem?_drop, Nat.add_zero] at e0
  have e1 : cs.toList[j]? = some (.int .u8 s') := by simpa using e0
  rw [e1]
  have hd2 : d = .lit (.int .u8 s') := congrArg Prod.fst h2
  subst hd2
  have hl : (tzTab.map fun z => (DataW.lit (.int .u8 z) : DataW Unit))[j]? = some (.lit (.int .u8 s')) := hdi
  rw [List.getElem?_map] at hl
  cases ht : tzTab[j]? with
  | none => rw [ht] at hl; cases hl
  | some z =>
    rw [ht] at hl
    simp only [Option.map_some, Option.some.injEq, DataW.lit.injEq, Lit.int.injEq, true_and] at hl
    rw [List.getD_eq_getElem?_getD, ht, ← hl]; rfl
theorem max_some {W : World} (h : W.ShapedOpen Tryz.prog) : ∃ m, W.cell? ⟨0, 0, none⟩ = some (.int .i64 m) :=
  cell_of_shapedOpen_int (zero := #[.int .i64 0]) (t := 3) h (of_decide_eq_true (by kernel_rfl)) (by kernel_rfl) rfl (by kernel_rfl) (by kernel_rfl) Tryz.underlying3
/-! ### THE ROW's STEP -/
set_option maxRecDepth 100000 in
theorem lifted (os : Os) (started : os.Started) (H : Type) (enc : TypeId × Value → H) :
    ReturnsInHanded {} Tryz.checked os 3 .any (fun w args => (Rows.queuePlaysSpec.pre enc Tryz.prog Tryz.f3 Rows.queuePlaysRow.domain false w args ∧ laidMetH Tryz.prog Rows.queuePlaysRow.laid w) ∧ sizedMet enc Tryz.prog Tryz.f3 (OpenSpec.ofChange Rows.queuePlaysSpec) false w args)
      (Rows.queuePlaysSpec.post enc Tryz.prog Tryz.f3 false true false false) := by
  refine returns_shaped (C := Tryz.checked) (X := fun w _ => laidMetH Tryz.prog Rows.queuePlaysRow.laid w) (fun _ _ _ hh h => h.of_heap hh) own started (by kernel_rfl) Tryz.func3
    (ChangeSpec.witness_at (enc := enc) (C := Tryz.checked) (os := os) (X := fun w _ => laidMetH Tryz.prog Rows.queuePlaysRow.laid w) false (laidWorld os) #[.agg #[.slice none 0 0, .slice none 0 0, .slice none 0 0, .slice none 0 0, .int .i64 0], .slice none 0 0, .slice none 0 0] 8 rfl (by kernel_rfl) (by kernel_rfl) (by kernel_rfl) (by kernel_rfl) (by kernel_rfl) (laid_met os _)) ?_
  intro W base args ds gs before hshape hval0 hW hcnd hsz hL _
  have hval : ∀ (j : Nat) t v, Tryz.f3.params[j]? = some t → args[j]? = some v → Value.okWide Tryz.prog W .any base t v := hval0
  have hW' := hW
  obtain ⟨p, q, hA0, hV, rfl, hfz, hnd⟩ := hW
  have hA : DataW.TrodAll enc Tryz.prog W 0 (fun _ => true) true Tryz.f3.params.toList args.toList ds p := hA0
  rw [Tryz.params3] at hA hval
  obtain ⟨v0, vs0, d0, ds0, p0, q0, hargs, rfl, rfl, h0, r0⟩ := trodAll_cons hA
  obtain ⟨v1, vs1, d1, ds1, p1, q1, rfl, rfl, rfl, h1, r1⟩ := trodAll_cons r0
  obtain ⟨v2, vs2, d2, ds2, p2, q2, rfl, rfl, rfl, h2, r2⟩ := trodAll_cons r1
  obtain ⟨rfl, rfl, rfl⟩ := trodAll_nil r2
  obtain rfl : args = #[v0, v1, v2] := by cases args; simp_all
  obtain ⟨rfl, rfl⟩ := trodVars_none hV
  have s0 : ∀ n ∈ DataW.weights Tryz.prog 26 d0, n ≤ reachBytes := fun n hn => of_decide_eq_true (List.all_eq_true.1 hsz n (DataW.weights_mem_each (j := 0) rfl rfl n hn))
  obtain ⟨cs0, ds0', rfl, c0, e0⟩ := open_struct 20 (hval 0 26 v0 rfl rfl) h0 Tryz.underlying26 (by kernel_rfl : flatTy Tryz.prog 20 26 = some polTy) s0
  obtain ⟨a0, w0, g0⟩ := conf_polV (ρ := fun _ => .bool true) c0 e0
  have s1 : ∀ n ∈ DataW.weights Tryz.prog 27 d1, n ≤ reachBytes := fun n hn => of_decide_eq_true (List.all_eq_true.1 hsz n (DataW.weights_mem_each (j := 1) rfl rfl n hn))
  obtain ⟨x1, c1, e1⟩ := open_cell 20 (hval 1 27 v1 rfl rfl) h1 (.inr (.inr (.inr ⟨_, Tryz.underlying27⟩))) (by kernel_rfl : flatTy Tryz.prog 20 27 = some [rowsTy]) s1
  obtain ⟨a1, k1, w1⟩ := conf_rowsR c1
  have g1 := k1.sound e1
  have s2 : ∀ n ∈ DataW.weights Tryz.prog 28 d2, n ≤ reachBytes := fun n hn => of_decide_eq_true (List.all_eq_true.1 hsz n (DataW.weights_mem_each (j := 2) rfl rfl n hn))
  obtain ⟨x2, c2, e2⟩ := open_cell 20 (hval 2 28 v2 rfl rfl) h2 (.inr (.inr (.inr ⟨_, Tryz.underlying28⟩))) (by kernel_rfl : flatTy Tryz.prog 20 28 = some [.sl 56 opTy]) s2
  obtain ⟨a2, k2, w2, z2⟩ := conf_calls c2
  have g2 := k2.sound e2
  clear hA0 hval0
  simp only [List.append_nil] at hW'
  refine (Proc.law (plays_spec a0 (polZ_ok w0) a1 w1 a2 z2 (len_i64 w2.1)) (vals := [.agg cs0.toArray, v1, v2]) rfl (env_of_tabs (tabs_of_laid hL) (tz_of_laid hL) (max_some hshape)) ⟨g0, g1, g2, trivial⟩).mono fun e W' ⟨he, hg⟩ => ?_
  subst he
  exact ⟨_, rfl, _, _, _, [], _, [], hW', trodAll_mk1 (shut_bool Tryz.underlying4 _), (trodAll_cons_mk (Below.trod lies (by kernel_rfl) (of_decide_eq_true (by kernel_rfl)) h0 hg (fun x hx => by simpa using hW'.lt x (by simp [hx]))) (trodAll_cons_mk (Below.trod lies (by kernel_rfl) (of_decide_eq_true (by kernel_rfl)) h1 hg (fun x hx => by simpa using hW'.lt x (by simp [hx]))) (trodAll_cons_mk (Below.trod lies (by kernel_rfl) (of_decide_eq_true (by kernel_rfl)) h2 hg (fun x hx => by simpa using hW'.lt x (by simp [hx]))) trodAll_mk0))), rfl, hg.frame _, fun h => by cases h⟩

theorem over : Rows.queuePlaysRow.holds Tryz.pinned (OpenSpec.ofChange Rows.queuePlaysSpec) :=
  OpenClaim.holds_of_wide 3 Tryz.f3 rfl rfl rfl rfl rfl rfl rfl ⟨rfl, rfl, rfl, rfl, rfl⟩ rfl rfl rfl rfl rfl (by kernel_rfl) Tryz.func3 (by kernel_rfl)
    (of_decide_eq_true (by kernel_rfl)) (by unfold Func.isWrapper; first | (rw [if_pos (by decide +kernel)]; kernel_rfl) | (rw [if_neg (by decide +kernel)]; exact ⟨rfl, rfl⟩))
    (fun os started H enc _ => lifted os started H enc)

/-- ████ THE STATEMENT ████ -/
theorem proved : Rows.QueuePlaysCardSaid :=
  Claim7.holds_tied_plain_at .later [] Rows.queuePlaysCard.laidKinds true Rows.queuePlaysCard.stood.harness Rows.queuePlaysCard.stood.looks
    over (fun _ h => by cases h) (by kernel_rfl) (fun _ h => by cases h) queuePlays_row_tie rfl ⟨rfl, rfl⟩ (by kernel_rfl) rfl
    (fun f fn hf hfn => by
      obtain rfl : f = 3 := Option.some.inj ((show Tryz.prog.funcNamed "interdict/interdictlaw15.QueuePlays" = some 3 by kernel_rfl).symm.trans hf) |>.symm
      obtain rfl : fn = Tryz.f3 := (Option.some.inj (Tryz.func3.symm.trans hfn)).symm
      exact ⟨by kernel_rfl, fun j t ht => by
        rw [Tryz.params3] at ht
        have hm : t ∈ [26, 27, 28] := by simpa using Array.mem_of_getElem? ht
        have hall : ([26, 27, 28].all fun u => !Tryz.prog.wantsStandIn u) = true := by kernel_rfl
        exact (show Tryz.prog.wantsStandIn t = false by simpa using List.all_eq_true.1 hall t hm)⟩)
    (by kernel_rfl)
end Go.Proofs.YtgnnglfbpcjadaaGreatDoor.queuePlays
