/- Texts put together: T08F, T08B, T01S, T01V, T08C, T08D, T08E, T08G, T08W, T08X. -/
import Derived.Test.YteeofakohenpoaaDoorMC
import Derived.Test.YteeofakohenpoaaDoorSxE
import Derived.Test.YteeofakohenpoaaDoorMD
import Derived.Test.YteeofakohenpoaaDoorMA
import Derived.Test.YteeofakohenpoaaDoorShelf

/- Instructions and programs that are handed in, as data. -/
namespace Go.Proofs.YteeofakohenpoaaDoor
open Go.Sx
set_option linter.unusedVariables false
set_option linter.unusedSimpArgs false

theorem conf_list {α : Type} {z : Nat} {τ : List DTy} {x : D} (d : α → List D) (P : α → Prop) (a0 : α) (each : ∀ ds, Conf τ ds → ∃ a, P a ∧ ds.length = (d a).length ∧ ∀ (j : Nat) (u u' : D), ds[j]? = some u → (d a)[j]? = some u' → DQ u u')
    (h : Conf1 (.sl z τ) x) : ∃ l : List α, DQ x (.sl τ.length l.length fun i => d (l.getD i a0)) ∧ (l.length ≤ maxLen ∧ l.length * z ≤ reachBytes) ∧ ∀ a ∈ l, P a := by
  cases h with
  | sl _ _ n f hn hz hl hc =>
    have each' : ∀ i, i < n → ∃ a, P a ∧ (f i).length = (d a).length ∧ ∀ (j : Nat) (u u' : D), (f i)[j]? = some u → (d a)[j]? = some u' → DQ u u' := fun i hi => each (f i) ⟨hl i hi, fun j t d ht hd => hc i j t d hi ht hd⟩
    let g : Nat → α := fun i => if h : i < n then Classical.choose (each' i h) else a0
    have hg : ∀ i, i < n → P (g i) ∧ (f i).length = (d (g i)).length ∧ ∀ (j : Nat) (u u' : D), (f i)[j]? = some u → (d (g i))[j]? = some u' → DQ u u' := fun i hi => by
      have e : g i = Classical.choose (each' i hi) := by simp only [g, hi, dite_true]
      rw [e]
      exact Classical.choose_spec (each' i hi)
    refine ⟨(List.range n).map g, ?_, by simpa using ⟨hn, hz⟩, fun o ho => ?_⟩
    · rw [show ((List.range n).map g).length = n by simp]
      refine .sl _ n _ _ (fun i hi => ?_) fun i j u u' hi hd hd' => ?_
      · rw [getD_map_range g a0 hi]; exact (hg i hi).2.1
      · rw [getD_map_range g a0 hi] at hd'
        exact (hg i hi).2.2 j u u' hd hd'
    · obtain ⟨i, hi, rfl⟩ := List.mem_map.1 ho
      exact (hg i (List.mem_range.1 hi)).1
def StrOK (s : ByteArray) : Prop := s.size ≤ 140737488355328
theorem reach_size {s : ByteArray} (h : s.size ≤ reachBytes) : StrOK s := by
  have := reachBytes_lt
  unfold StrOK; omega
theorem conf_strs {z : Nat} {x : D} (h : Conf1 (.sl z [.str]) x) : ∃ l : List ByteArray, DQ x (dStrs l) ∧ (l.length ≤ maxLen ∧ l.length * z ≤ reachBytes) ∧ ∀ a ∈ l, StrOK a :=
  conf_list (fun s => [D.str s]) StrOK .empty (fun ds ⟨hl, hc⟩ => by
    match ds, hl with
    | [d0], _ =>
      obtain ⟨s, rfl, h1, h2⟩ := conf_str (hc 0 _ _ rfl rfl)
      refine ⟨s, reach_size h2, rfl, fun j u u' hd hd' => ?_⟩
      match j with
      | 0 => simp at hd hd'; subst hd hd'; exact .refl _
      | j + 1 => simp at hd) h
def wfI (n : Int) : Prop := (Lit.int .i64 n).wf = true
def wfB (n : Int) : Prop := (Lit.int .u8 n).wf = true
abbrev insTy : List DTy := [.int .u8, .int .u8, .str, .str, .str, .sl 16 [.str], .sl 16 [.str], .int .i64, .int .i64]
structure InsOK (x : Ins) : Prop where
  kind : wfB x.kind
  op : wfB x.op
  dst : StrOK x.dst
  ref : StrOK x.ref
  alt : StrOK x.alt
  args : x.args.length * 16 ≤ reachBytes ∧ ∀ a ∈ x.args, StrOK a
  frm : x.frm.length * 16 ≤ reachBytes ∧ ∀ a ∈ x.frm, StrOK a
  num : wfI x.num
  at_ : wfI x.at_
theorem conf_ins {ds : List D} (h : Conf insTy ds) : ∃ x : Ins, InsOK x ∧ ds.length = (dIns x).length ∧ ∀ (j : Nat) (u u' : D), ds[j]? = some u → (dIns x)[j]? = some u' → DQ u u' := by
  obtain ⟨hl, hc⟩ := h
  match ds, hl with
  | [d0, d1, d2, d3, d4, d5, d6, d7, d8], _ =>
    obtain ⟨n0, rfl, w0⟩ := conf_int (hc 0 _ _ rfl rfl)
    obtain ⟨n1, rfl, w1⟩ := conf_int (hc 1 _ _ rfl rfl)
    obtain ⟨s2, rfl, _, w2⟩ := conf_str (hc 2 _ _ rfl rfl)
    obtain ⟨s3, rfl, _, w3⟩ := conf_str (hc 3 _ _ rfl rfl)
    obtain ⟨s4, rfl, _, w4⟩ := conf_str (hc 4 _ _ rfl rfl)
    obtain ⟨l5, q5, w5, z5⟩ := conf_strs (hc 5 _ _ rfl rfl)
    obtain ⟨l6, q6, w6, z6⟩ := conf_strs (hc 6 _ _ rfl rfl)
    obtain ⟨n7, rfl, w7⟩ := conf_int (hc 7 _ _ rfl rfl)
    obtain ⟨n8, rfl, w8⟩ := conf_int (hc 8 _ _ rfl rfl)
    refine ⟨⟨n0, n1, s2, s3, s4, l5, l6, n7, n8⟩, ⟨w0, w1, reach_size w2, reach_size w3, reach_size w4, ⟨w5.2, z5⟩, ⟨w6.2, z6⟩, w7, w8⟩, rfl, fun j d d' hd hd' => ?_⟩
    match j with
    | 0 => simp at hd hd'; subst hd hd'; exact .refl _
    | 1 => simp at hd hd'; subst hd hd'; exact .refl _
    | 2 => simp at hd hd'; subst hd hd'; exact .refl _
    | 3 => simp at hd hd'; subst hd hd'; exact .refl _
    | 4 => simp at hd hd'; subst hd hd'; exact .refl _
    | 5 => simp at hd hd'; subst hd hd'; exact q5
    | 6 => simp at hd hd'; subst hd hd'; exact q6
    | 7 => simp at hd hd'; subst hd hd'; exact .refl _
    | 8 => simp at hd hd'; subst hd hd'; exact .refl _
    | j + 9 => simp at hd
abbrev insV (x : Ins) : V := .agg [.d (.int .u8 x.kind), .d (.int .u8 x.op), vs x.dst, vs x.ref, vs x.alt, .d (dStrs x.args), .d (dStrs x.frm), vi x.num, vi x.at_]
theorem conf_insV {F : Nat → Prop} {w : World} {ρ : Nat → Value} {ds : List D} {cs : List Value} (h : Conf insTy ds) (hr : All2 (RD F w) ds cs) : ∃ x : Ins, InsOK x ∧ R3 ρ F w (insV x) (.agg cs.toArray) := by
  obtain ⟨hl, hc⟩ := h
  match ds, hl, cs, hr with
  | [d0, d1, d2, d3, d4, d5, d6, d7, d8], _, [c0, c1, c2, c3, c4, c5, c6, c7, c8], ⟨r0, r1, r2, r3, r4, r5, r6, r7, r8, _⟩ =>
    obtain ⟨n0, rfl, w0⟩ := conf_int (hc 0 _ _ rfl rfl)
    obtain ⟨n1, rfl, w1⟩ := conf_int (hc 1 _ _ rfl rfl)
    obtain ⟨s2, rfl, _, w2⟩ := conf_str (hc 2 _ _ rfl rfl)
    obtain ⟨s3, rfl, _, w3⟩ := conf_str (hc 3 _ _ rfl rfl)
    obtain ⟨s4, rfl, _, w4⟩ := conf_str (hc 4 _ _ rfl rfl)
    obtain ⟨l5, q5, w5, z5⟩ := conf_strs (hc 5 _ _ rfl rfl)
    obtain ⟨l6, q6, w6, z6⟩ := conf_strs (hc 6 _ _ rfl rfl)
    obtain ⟨n7, rfl, w7⟩ := conf_int (hc 7 _ _ rfl rfl)
    obtain ⟨n8, rfl, w8⟩ := conf_int (hc 8 _ _ rfl rfl)
    exact ⟨⟨n0, n1, s2, s3, s4, l5, l6, n7, n8⟩, ⟨w0, w1, reach_size w2, reach_size w3, reach_size w4, ⟨w5.2, z5⟩, ⟨w6.2, z6⟩, w7, w8⟩, ⟨_, rfl, r0, r1, r2, r3, r4, q5.sound r5, q6.sound r6, r7, r8, trivial⟩⟩
abbrev blkTy : List DTy := [.str, .sl 120 insTy, .int .i64]
structure BlkOK (b : Blk) : Prop where
  name : StrOK b.name
  code : b.code.length * 120 ≤ reachBytes ∧ ∀ x ∈ b.code, InsOK x
  at_ : wfI b.at_
theorem conf_blk {ds : List D} (h : Conf blkTy ds) : ∃ x : Blk, BlkOK x ∧ ds.length = (dBlk x).length ∧ ∀ (j : Nat) (u u' : D), ds[j]? = some u → (dBlk x)[j]? = some u' → DQ u u' := by
  obtain ⟨hl, hc⟩ := h
  match ds, hl with
  | [d0, d1, d2], _ =>
    obtain ⟨s0, rfl, _, w0⟩ := conf_str (hc 0 _ _ rfl rfl)
    obtain ⟨l1, q1, w1, z1⟩ := conf_list dIns InsOK (ins0 0) (fun ds h => conf_ins h) (hc 1 _ _ rfl rfl)
    obtain ⟨n2, rfl, w2⟩ := conf_int (hc 2 _ _ rfl rfl)
    refine ⟨⟨s0, l1, n2⟩, ⟨reach_size w0, ⟨w1.2, z1⟩, w2⟩, rfl, fun j d d' hd hd' => ?_⟩
    match j with
    | 0 => simp at hd hd'; subst hd hd'; exact .refl _
    | 1 => simp at hd hd'; subst hd hd'; exact q1
    | 2 => simp at hd hd'; subst hd hd'; exact .refl _
    | j + 3 => simp at hd
abbrev funTy : List DTy := [.str, .sl 16 [.str], .sl 48 blkTy, .int .i64]
structure FunOK (f : Fun) : Prop where
  name : StrOK f.name
  params : f.params.length * 16 ≤ reachBytes ∧ ∀ a ∈ f.params, StrOK a
  blocks : f.blocks.length * 48 ≤ reachBytes ∧ ∀ x ∈ f.blocks, BlkOK x
  at_ : wfI f.at_
theorem conf_fun {ds : List D} (h : Conf funTy ds) : ∃ x : Fun, FunOK x ∧ ds.length = (dFun x).length ∧ ∀ (j : Nat) (u u' : D), ds[j]? = some u → (dFun x)[j]? = some u' → DQ u u' := by
  obtain ⟨hl, hc⟩ := h
  match ds, hl with
  | [d0, d1, d2, d3], _ =>
    obtain ⟨s0, rfl, _, w0⟩ := conf_str (hc 0 _ _ rfl rfl)
    obtain ⟨l1, q1, w1, z1⟩ := conf_strs (hc 1 _ _ rfl rfl)
    obtain ⟨l2, q2, w2, z2⟩ := conf_list dBlk BlkOK blk0 (fun ds h => conf_blk h) (hc 2 _ _ rfl rfl)
    obtain ⟨n3, rfl, w3⟩ := conf_int (hc 3 _ _ rfl rfl)
    refine ⟨⟨s0, l1, l2, n3⟩, ⟨reach_size w0, ⟨w1.2, z1⟩, ⟨w2.2, z2⟩, w3⟩, rfl, fun j d d' hd hd' => ?_⟩
    match j with
    | 0 => simp at hd hd'; subst hd hd'; exact .refl _
    | 1 => simp at hd hd'; subst hd hd'; exact q1
    | 2 => simp at hd hd'; subst hd hd'; exact q2
    | 3 => simp at hd hd'; subst hd hd'; exact .refl _
    | j + 4 => simp at hd
abbrev arrTy : List DTy := [.str, .int .i64, .str, .int .i64]
structure ArrOK (a : Arr) : Prop where
  name : StrOK a.name
  size : wfI a.size
  level : StrOK a.level
  at_ : wfI a.at_
theorem conf_arr {ds : List D} (h : Conf arrTy ds) : ∃ x : Arr, ArrOK x ∧ ds.length = (dArr x).length ∧ ∀ (j : Nat) (u u' : D), ds[j]? = some u → (dArr x)[j]? = some u' → DQ u u' := by
  obtain ⟨hl, hc⟩ := h
  match ds, hl with
  | [d0, d1, d2, d3], _ =>
    obtain ⟨s0, rfl, _, w0⟩ := conf_str (hc 0 _ _ rfl rfl)
    obtain ⟨n1, rfl, w1⟩ := conf_int (hc 1 _ _ rfl rfl)
    obtain ⟨s2, rfl, _, w2⟩ := conf_str (hc 2 _ _ rfl rfl)
    obtain ⟨n3, rfl, w3⟩ := conf_int (hc 3 _ _ rfl rfl)
    refine ⟨⟨s0, n1, s2, n3⟩, ⟨reach_size w0, w1, reach_size w2, w3⟩, rfl, fun j d d' hd hd' => ?_⟩
    match j with
    | 0 => simp at hd hd'; subst hd hd'; exact .refl _
    | 1 => simp at hd hd'; subst hd hd'; exact .refl _
    | 2 => simp at hd hd'; subst hd hd'; exact .refl _
    | 3 => simp at hd hd'; subst hd hd'; exact .refl _
    | j + 4 => simp at hd
abbrev prgTy : List DTy := [.sl 48 arrTy, .sl 72 funTy]
structure PrgOK (p : Prg) : Prop where
  arrays : p.arrays.length * 48 ≤ reachBytes ∧ ∀ x ∈ p.arrays, ArrOK x
  funcs : p.funcs.length * 72 ≤ reachBytes ∧ ∀ x ∈ p.funcs, FunOK x
theorem conf_prgV {F : Nat → Prop} {w : World} {ρ : Nat → Value} {ds : List D} {cs : List Value} (h : Conf prgTy ds) (hr : All2 (RD F w) ds cs) : ∃ x : Prg, PrgOK x ∧ R3 ρ F w (prgV x) (.agg cs.toArray) := by
  obtain ⟨hl, hc⟩ := h
  match ds, hl, cs, hr with
  | [d0, d1], _, [c0, c1], ⟨r0, r1, _⟩ =>
    obtain ⟨l0, q0, w0, z0⟩ := conf_list dArr ArrOK arr0 (fun ds h => conf_arr h) (hc 0 _ _ rfl rfl)
    obtain ⟨l1, q1, w1, z1⟩ := conf_list dFun FunOK fun0 (fun ds h => conf_fun h) (hc 1 _ _ rfl rfl)
    exact ⟨⟨l0, l1⟩, ⟨⟨w0.2, z0⟩, ⟨w1.2, z1⟩⟩, ⟨_, rfl, q0.sound r0, q1.sound r1, trivial⟩⟩
end Go.Proofs.YteeofakohenpoaaDoor

/- May an instruction be? -/
namespace Go.Proofs.YteeofakohenpoaaDoor
open Go.Sx
set_option linter.unusedVariables false
set_option linter.unusedSimpArgs false
set_option maxRecDepth 100000

/-- An instruction of a size that there may be. -/
structure FitI (x : Ins) : Prop where
  kind : 0 ≤ x.kind ∧ x.kind < 256
  op : 0 ≤ x.op ∧ x.op < 256
  dst : x.dst.size ≤ okL
  ref : x.ref.size ≤ okL
  alt : x.alt.size ≤ okL
  alen : x.args.length ≤ bigN
  flen : x.frm.length ≤ bigN
  args : ∀ a, a ∈ x.args → a.size ≤ okL
  frm : ∀ a, a ∈ x.frm → a.size ≤ okL
  num : inI64 x.num
set_option maxHeartbeats 8000000 in
theorem right_spec (x0 : Ins) (hx : FitI x0) : Pure PG 31 [insV x0] (vb (rightI x0)) [] := by
  refine Proc.mk (cfg 135) tysOK [] Tryd.func31 rfl (by kernel_rfl) rfl rfl rfl ?_
  intro C x
  have ha := hx.alen; have hf := hx.flen
  unfold bigN at ha hf
  refine x.pureG rfl trivial rfl (fun _ _ => opname_spec x0.op hx.op.1 hx.op.2) rfl ⟨rfl, trivial⟩ ?_
  refine x.pureG rfl trivial rfl (fun _ => pnames_spec x0.args hx.alen hx.args) rfl ⟨veq_d rfl, trivial⟩ ?_
  refine x.pureG rfl trivial rfl (fun _ => pnames_spec x0.frm hx.flen hx.frm) rfl ⟨veq_d rfl, trivial⟩ ?_
  refine x.cond rfl trivial (fun h => ?_) (fun h => ?_)
  · have h : (!((!decide (x0.op = 0)) == decide (x0.kind = 2)) || (!decide (x0.op = 0) && decide ((opName x0.op).data.toList = [])) || (!decide (x0.num = 0) && !decide (x0.kind = 1)) || !allN x0.args || !allN x0.frm) = true := h
    refine x.exit rfl trivial ?_
    refine ⟨.inr rfl, ?_, trivial, rfl⟩
    show false = rightI x0
    unfold rightI
    rw [if_pos (by simpa only [ne_eq, decide_not, bne] using h)]
  have h : (!((!decide (x0.op = 0)) == decide (x0.kind = 2)) || (!decide (x0.op = 0) && decide ((opName x0.op).data.toList = [])) || (!decide (x0.num = 0) && !decide (x0.kind = 1)) || !allN x0.args || !allN x0.frm) = false := h
  have hA : ((decide (x0.op ≠ 0) != decide (x0.kind = 2)) || (decide (x0.op ≠ 0) && decide ((opName x0.op).data.toList = [])) || (decide (x0.num ≠ 0) && decide (x0.kind ≠ 1)) || !allN x0.args || !allN x0.frm) = false := by simpa only [ne_eq, decide_not, bne] using h
  clear h
  unfold rightI
  rw [if_neg (by rw [hA]; decide)]
  refine x.cond rfl trivial (fun h2 => ?_) (fun h2 => ?_)
  · have h2 : x0.kind = 3 := of_decide_eq_true h2
    rw [if_pos h2]
    refine x.pure rfl trivial rfl (pname_spec x0.dst hx.dst) ⟨rfl, trivial⟩ ?_
    refine x.exit rfl trivial ?_
    refine ⟨.inr rfl, ?_, trivial, rfl⟩
    show (okN x0.dst && decide (x0.ref.data.toList = []) && decide (x0.alt.data.toList = []) && decide ((x0.frm.length : Int) = x0.args.length) && decide (1 ≤ (x0.frm.length : Int)) && decide ((x0.frm.length : Int) ≤ 64)) = _
    rw [show decide ((x0.frm.length : Int) = x0.args.length) = decide (x0.frm.length = x0.args.length) by rw [decide_eq_decide]; omega, show decide (1 ≤ (x0.frm.length : Int)) = decide (1 ≤ x0.frm.length) by rw [decide_eq_decide]; omega, show decide ((x0.frm.length : Int) ≤ 64) = decide (x0.frm.length ≤ 64) by rw [decide_eq_decide]; omega]
  have h2 : ¬ x0.kind = 3 := of_decide_eq_false h2
  rw [if_neg h2]
  cases hsh : shapeV x0.kind with
  | none =>
    refine x.every2 [] [1, 2] (.fork 0 (.fork 3 (.fork 4 (.fork 5 (.fork 6 (.fork 7 (.fork 8 (.fork 9 .leaf .no) .no) .no) (.fork 7 (.fork 6 (.fork 8 (.fork 9 .leaf .no) .no) (.fork 8 (.fork 6 (.fork 9 .leaf .no) .no) .no)) .no)) (.fork 6 (.fork 5 (.fork 7 (.fork 8 (.fork 9 .leaf .no) .no) .no) (.fork 7 (.fork 5 (.fork 8 (.fork 9 .leaf .no) .no) .no) .no)) (.fork 7 (.fork 5 (.fork 6 (.fork 8 (.fork 9 .leaf .no) .no) (.fork 8 (.fork 6 (.fork 9 .leaf .no) .no) .no)) (.fork 6 (.fork 5 (.fork 8 (.fork 9 .leaf .no) .no) .no) .no)) .no))) (.fork 7 (.fork 4 (.fork 5 (.fork 6 (.fork 8 (.fork 9 .leaf .no) .no) (.fork 8 (.fork 6 (.fork 9 .leaf .no) .no) .no)) (.fork 6 (.fork 5 (.fork 8 (.fork 9 .leaf .no) .no) .no) .no)) .no) .no)) (.fork 7 (.fork 3 (.fork 4 (.fork 5 (.fork 6 (.fork 8 (.fork 9 .leaf .no) .no) (.fork 8 (.fork 6 (.fork 9 .leaf .no) .no) .no)) (.fork 6 (.fork 5 (.fork 8 (.fork 9 .leaf .no) .no) .no) .no)) .no) .no) .no)) (.fork 7 (.fork 0 (.fork 3 (.fork 4 (.fork 5 (.fork 6 (.fork 8 (.fork 9 .leaf .no) .no) (.fork 8 (.fork 6 (.fork 9 .leaf .no) .no) .no)) (.fork 6 (.fork 5 (.fork 8 (.fork 9 .leaf .no) .no) .no) .no)) .no) .no) .no) .no))
      ⟨[(1, .ptr 0 0), (3, .ptr 2 0), (4, vb false)], [(2, .box [vi 0, vb false, vb false, vb false])], 3⟩
      rfl trivial mixedP (by kernel_rfl) Ret.noPanic rfl trivial (fun C2 x2 => ?_) ?_
    · repeat' first
        | exact True.intro
        | refine And.intro ?_ ?_
        | refine x2.back rfl trivial ?_
        | refine x2.call [] rfl trivial rfl shapes_spec rfl trivial trivial (x2.back rfl trivial ?_)
        | refine x2.look rfl trivial rfl (lk_none hsh ?_)
        | exact .inl ⟨⟨⟨rfl, rfl⟩, ⟨rfl, rfl⟩, rfl, trivial⟩, ⟨⟨rfl, rfl, rfl, rfl, trivial⟩, trivial⟩, rfl⟩
        | exact .inr ⟨[0, 2, 1], rfl, ⟨⟨rfl, rfl⟩, ⟨rfl, rfl⟩, rfl, trivial⟩, ⟨⟨rfl, rfl, rfl, rfl, trivial⟩, trivial⟩, rfl⟩
    refine x.cond rfl trivial (fun h3 => ?_) (fun h3 => ?_)
    · refine x.exit rfl trivial ?_
      exact ⟨.inr rfl, rfl, trivial, rfl⟩
    · have h3 : ((!false || decide ((0 : Int) < x0.frm.length)) || (decide ((0 : Int) ≤ 0) && !decide ((x0.args.length : Int) = 0)) || decide ((6 : Int) < x0.args.length)) = false := h3
      simp at h3
  | some q =>
    obtain ⟨n, d, r, b⟩ := q
    refine x.every2 [] [1, 2] (.fork 0 (.fork 3 (.fork 4 (.fork 5 (.fork 6 (.fork 7 (.fork 8 (.fork 9 .leaf .no) .no) .no) (.fork 7 (.fork 6 (.fork 8 (.fork 9 .leaf .no) .no) (.fork 8 (.fork 6 (.fork 9 .leaf .no) .no) .no)) .no)) (.fork 6 (.fork 5 (.fork 7 (.fork 8 (.fork 9 .leaf .no) .no) .no) (.fork 7 (.fork 5 (.fork 8 (.fork 9 .leaf .no) .no) .no) .no)) (.fork 7 (.fork 5 (.fork 6 (.fork 8 (.fork 9 .leaf .no) .no) (.fork 8 (.fork 6 (.fork 9 .leaf .no) .no) .no)) (.fork 6 (.fork 5 (.fork 8 (.fork 9 .leaf .no) .no) .no) .no)) .no))) (.fork 7 (.fork 4 (.fork 5 (.fork 6 (.fork 8 (.fork 9 .leaf .no) .no) (.fork 8 (.fork 6 (.fork 9 .leaf .no) .no) .no)) (.fork 6 (.fork 5 (.fork 8 (.fork 9 .leaf .no) .no) .no) .no)) .no) .no)) (.fork 7 (.fork 3 (.fork 4 (.fork 5 (.fork 6 (.fork 8 (.fork 9 .leaf .no) .no) (.fork 8 (.fork 6 (.fork 9 .leaf .no) .no) .no)) (.fork 6 (.fork 5 (.fork 8 (.fork 9 .leaf .no) .no) .no) .no)) .no) .no) .no)) (.fork 7 (.fork 0 (.fork 3 (.fork 4 (.fork 5 (.fork 6 (.fork 8 (.fork 9 .leaf .no) .no) (.fork 8 (.fork 6 (.fork 9 .leaf .no) .no) .no)) (.fork 6 (.fork 5 (.fork 8 (.fork 9 .leaf .no) .no) .no) .no)) .no) .no) .no) .no))
      ⟨[(1, .ptr 0 0), (3, .ptr 2 0), (4, vb true)], [(2, .box [vi n, vb d, vb r, vb b])], 3⟩
      rfl trivial mixedP (by kernel_rfl) Ret.noPanic rfl trivial (fun C2 x2 => ?_) ?_
    · repeat' first
        | exact True.intro
        | refine And.intro ?_ ?_
        | refine x2.back rfl trivial ?_
        | refine x2.call [] rfl trivial rfl shapes_spec rfl trivial trivial (x2.back rfl trivial ?_)
        | refine x2.look rfl trivial rfl (lk_some hsh ?_)
        | exact .inl ⟨⟨⟨rfl, rfl⟩, ⟨rfl, rfl⟩, rfl, trivial⟩, ⟨⟨rfl, rfl, rfl, rfl, trivial⟩, trivial⟩, rfl⟩
        | exact .inr ⟨[0, 2, 1], rfl, ⟨⟨rfl, rfl⟩, ⟨rfl, rfl⟩, rfl, trivial⟩, ⟨⟨rfl, rfl, rfl, rfl, trivial⟩, trivial⟩, rfl⟩
    have eb : (decide (0 < x0.frm.length) || (decide (0 ≤ n) && decide ((x0.args.length : Int) ≠ n)) || decide (6 < x0.args.length)) = (((!true || decide ((0 : Int) < x0.frm.length)) || (decide (0 ≤ n) && !decide ((x0.args.length : Int) = n))) || decide ((6 : Int) < x0.args.length)) := by
      rw [show decide ((0 : Int) < x0.frm.length) = decide (0 < x0.frm.length) by rw [decide_eq_decide]; omega, show decide ((6 : Int) < x0.args.length) = decide (6 < x0.args.length) by rw [decide_eq_decide]; omega]
      simp only [ne_eq, decide_not, Bool.not_true, Bool.false_or]
    refine x.cond rfl trivial (fun h3 => ?_) (fun h3 => ?_)
    · have h3 : (((!true || decide ((0 : Int) < x0.frm.length)) || (decide (0 ≤ n) && !decide ((x0.args.length : Int) = n))) || decide ((6 : Int) < x0.args.length)) = true := h3
      refine x.exit rfl trivial ?_
      refine ⟨.inr rfl, ?_, trivial, rfl⟩
      show false = (!(_ || _ || _) && _)
      rw [eb, h3]
      rfl
    · have h3 : (((!true || decide ((0 : Int) < x0.frm.length)) || (decide (0 ≤ n) && !decide ((x0.args.length : Int) = n))) || decide ((6 : Int) < x0.args.length)) = false := h3
      refine x.pure rfl trivial rfl (fits_spec x0.dst d hx.dst) ⟨rfl, rfl, trivial⟩ ?_
      refine x.pureG rfl trivial rfl (fun _ => fits_spec x0.ref r hx.ref) rfl ⟨rfl, rfl, trivial⟩ ?_
      refine x.pureG rfl trivial rfl (fun _ => fits_spec x0.alt b hx.alt) rfl ⟨rfl, rfl, trivial⟩ ?_
      refine x.exit rfl trivial ?_
      refine ⟨.inr rfl, ?_, trivial, rfl⟩
      show (fitsV x0.dst d && fitsV x0.ref r && fitsV x0.alt b) = (!(_ || _ || _) && _)
      rw [eb, h3]
      rfl
end Go.Proofs.YteeofakohenpoaaDoor

/- slices.Reverse of bytes. -/
namespace Go.Proofs.YteeofakohenpoaaDoor
open Go.Sx
set_option linter.unusedVariables false
set_option linter.unusedSimpArgs false
set_option maxRecDepth 100000


/-- The first i turned with the last i. -/
def revF (n i : Nat) (b : Nat → Int) : Nat → Int := fun k => if k < i ∨ n ≤ k + i then b (n - 1 - k) else b k

theorem reverse_spec (n : Nat) (b : Nat → Int) (hn : n ≤ big) : Proc PG 45 1 [.own 0] [.vec 5 1 n fun k => [.int .u8 (b k)]] (.tup []) [.vec 5 1 n fun k => [.int .u8 (b (n - 1 - k))]] := by
  refine Proc.mk (cfg1 28) tysOK [0] Tryd.func45 rfl (by kernel_rfl) rfl rfl rfl ?_
  intro C x
  unfold big at hn
  refine x.loop (α := { i : Nat // 2 * i ≤ n + 1 }) (fun y => ⟨[(0, .own 0), (2, vi (y.1 : Int)), (3, vi ((n : Int) - 1 - (y.1 : Int)))], [(0, .vec 5 1 n fun k => [.int .u8 (revF n y.1 b k)])], 1⟩) (fun y => n - y.1) ⟨0, by omega⟩ rfl (show inI64 ((n : Int) - 1) by unfold inI64; omega) ?_ (fun y => ?_)
  · refine ⟨⟨rfl, rfl, ?_, trivial⟩, ⟨⟨rfl, rfl, rfl, fun i hi => ?_⟩, trivial⟩, rfl⟩
    · show (n : Int) - 1 = (n : Int) - 1 - 0; omega
    · show [D.int .u8 (b i)] = [D.int .u8 (revF n 0 b i)]
      rw [revF, if_neg (by omega)]
  obtain ⟨i, hi⟩ := y
  change Go C _ ⟨[(0, .own 0), (2, vi (i : Int)), (3, vi ((n : Int) - 1 - (i : Int)))], [(0, .vec 5 1 n fun k => [.int .u8 (revF n i b k)])], 1⟩ _
  refine x.cond rfl trivial (fun h => ?_) (fun h => ?_)
  · have h' : (i : Int) < (n : Int) - 1 - i := by simpa using h
    refine x.plan [0, 1, 2, 3, 4, 5, 8, 9] [6, 7, 10, 11, 12] [13, 14, 15] rfl trivial mixedP (by kernel_rfl) Ret.noPanic ?_
    refine x.qdone rfl ?_ ?_
    · simp only [AllP]; omega
    refine x.back rfl ?_ ?_
    · simp only [AllP, List.length, inI64]; omega
    refine ⟨⟨i + 1, by omega⟩, by show n - (i + 1) < n - i; omega, ⟨rfl, ?_, ?_, trivial⟩, ⟨⟨rfl, rfl, rfl, fun k hk => ?_⟩, trivial⟩, rfl⟩
    · show (i : Int) + 1 = ((i + 1 : Nat) : Int); omega
    · show (n : Int) - 1 - i - 1 = (n : Int) - 1 - ((i + 1 : Nat) : Int); omega
    · rw [put2_int, put2_int]
      show [D.int .u8 (if k = ((n : Int) - 1 - i).toNat then revF n i b (i : Int).toNat else if k = (i : Int).toNat then revF n i b ((n : Int) - 1 - i).toNat else revF n i b k)] = [D.int .u8 (revF n (i + 1) b k)]
      congr 2
      rw [show ((n : Int) - 1 - i).toNat = n - 1 - i by omega, show (i : Int).toNat = i by omega]
      have e1 : revF n i b i = b i := by rw [revF, if_neg (by omega)]
      have e2 : revF n i b (n - 1 - i) = b (n - 1 - i) := by rw [revF, if_neg (by omega)]
      rw [e1, e2]
      by_cases h1 : k = n - 1 - i
      · rw [if_pos h1, revF, if_pos (by omega), h1, show n - 1 - (n - 1 - i) = i by omega]
      · rw [if_neg h1]
        by_cases h2 : k = i
        · rw [if_pos h2, revF, if_pos (by omega), h2]
        · rw [if_neg h2, revF, revF]
          by_cases h3 : k < i ∨ n ≤ k + i
          · rw [if_pos h3, if_pos (by omega)]
          · rw [if_neg h3, if_neg (by omega)]
  · have h' : ¬ (i : Int) < (n : Int) - 1 - i := by simpa using h
    refine x.exit rfl trivial ?_
    refine ⟨.inl rfl, trivial, ⟨⟨rfl, rfl, rfl, fun k hk => ?_⟩, trivial⟩, rfl⟩
    show [D.int .u8 (revF n i b k)] = [D.int .u8 (b (n - 1 - k))]
    rw [revF]
    split
    · rfl
    · rw [show n - 1 - k = k by omega]
end Go.Proofs.YteeofakohenpoaaDoor

/- The text of a number. -/
namespace Go.Proofs.YteeofakohenpoaaDoor
open Go.Sx
set_option linter.unusedVariables false
set_option linter.unusedSimpArgs false
set_option maxRecDepth 100000

/-- The digits got so far, the last one first. -/
structure SI (u0 : Nat) where
  u : Nat
  l : List Int
  lo : ∀ x ∈ l, 48 ≤ x ∧ x ≤ 57
  same : digs0 u ++ (l.map fun x => UInt8.ofNat x.toNat).reverse = if l = [] then digs0 u0 else digs u0
  first : l = [] → u = u0
  len : l.length ≤ 20 ∧ u < 10 ^ (20 - l.length)

theorem turn_list (l : List Int) : (List.range l.length).map (fun i => UInt8.ofNat (l.getD (l.length - 1 - i) 0).toNat) = (l.map fun x => UInt8.ofNat x.toNat).reverse := by
  apply List.ext_getElem
  · simp
  · intro i h1 h2
    simp at h1
    have : l.length - 1 - i < l.length := by omega
    simp [this]

theorem show_spec (n : Int) (hn : inI64 n) : Pure PG 23 [vi n] (vs (showV n)) [] := by
  refine Proc.mk ⟨34, 0, false, tys⟩ tysOK [] Tryd.func23 rfl (by kernel_rfl) rfl rfl rfl ?_
  intro C x
  unfold inI64 at hn
  refine x.ite (α := Unit) (fun _ => ⟨[(3, .d (.int .u64 (n.natAbs : Int))), (4, vs (ba (sgV n)))], [], 0⟩) rfl trivial (fun h => ?_) (fun h => ?_) (fun _ => ?_)
  · refine x.back rfl trivial ⟨(), ⟨?_, ?_, trivial⟩, trivial, rfl⟩
    · show IntKind.u64.wrap (0 - IntKind.u64.wrap n) = n.natAbs
      have : n < 0 := by simpa using h
      rw [IntKind.wrap_u64, IntKind.wrap_u64]
      omega
    · show _ = ba (sgV n)
      rw [sgV, if_pos (by simpa using h)]
      rfl
  · refine x.back rfl trivial ⟨(), ⟨?_, ?_, trivial⟩, trivial, rfl⟩
    · show IntKind.u64.wrap n = n.natAbs
      have : ¬ n < 0 := by simpa using h
      rw [IntKind.wrap_u64]
      omega
    · show _ = ba (sgV n)
      rw [sgV, if_neg (by simpa using h)]
      rfl
  refine x.toLoop rfl trivial ?_
  refine Go.own 5 5 1 (fun _ => []) rfl ?_
  refine x.loop (α := SI n.natAbs) (fun y => ⟨[(3, .d (.int .u64 (y.u : Int))), (4, vs (ba (sgV n))), (5, .own 0)], [(0, .vec 5 1 y.l.length fun i => [.int .u8 (y.l.getD i 0)])], 1⟩) (fun y => 21 - y.l.length)
    ⟨n.natAbs, [], by simp, by simp, fun _ => rfl, by simp, by show n.natAbs < 100000000000000000000; omega⟩ rfl trivial ?_ (fun y => ?_)
  · exact ⟨⟨rfl, rfl, rfl, trivial⟩, ⟨⟨rfl, rfl, rfl, fun i hi => absurd hi (Nat.not_lt_zero _)⟩, trivial⟩, rfl⟩
  obtain ⟨u, l, lo, same, first, len⟩ := y
  change Go C _ ⟨[(3, .d (.int .u64 (u : Int))), (4, vs (ba (sgV n))), (5, .own 0)], [(0, .vec 5 1 l.length fun i => [.int .u8 (l.getD i 0)])], 1⟩ _
  refine x.cond rfl trivial (fun h => ?_) (fun h => ?_)
  · have h' : 0 < u ∨ l = [] := by
      simp only [Bool.or_eq_true, decide_eq_true_eq] at h
      rcases h with h | h
      · exact .inl (by omega)
      · exact .inr (List.length_eq_zero_iff.1 (by omega))
    have hl : l.length ≤ 19 := by
      rcases h' with h' | rfl
      · refine Classical.byContradiction fun hh => ?_
        have : l.length = 20 := by omega
        rw [this] at len
        simp at len
        omega
      · simp
    refine x.back rfl ?_ ?_
    · simp only [AllP, big]; omega
    have hd : IntKind.u8.wrap (IntKind.u64.wrap (48 + (u : Int).tmod 10)) = 48 + ((u % 10 : Nat) : Int) := by
      rw [IntKind.wrap_u64, IntKind.wrap_u8, Int.tmod_eq_emod_of_nonneg (by omega)]
      omega
    have hq : IntKind.u64.wrap ((u : Int).tdiv 10) = ((u / 10 : Nat) : Int) := by
      have h1 : u < 10 ^ 20 := Nat.lt_of_lt_of_le len.2 (Nat.pow_le_pow_right (by omega) (by omega))
      have h2 : u / 10 < 10000000000000000000 := by omega
      rw [Int.tdiv_eq_ediv_of_nonneg (by omega), IntKind.wrap_u64]
      omega
    refine ⟨⟨u / 10, l ++ [48 + ((u % 10 : Nat) : Int)], ?_, ?_, ?_, ?_⟩, ?_, ⟨?_, rfl, rfl, trivial⟩, ⟨⟨rfl, rfl, ?_, ?_⟩, trivial⟩, rfl⟩
    · intro y hy
      rcases List.mem_append.1 hy with hy | hy
      · exact lo y hy
      · rw [List.mem_singleton.1 hy]; omega
    · rw [if_neg (by simp)]
      simp only [List.map_append, List.map_cons, List.map_nil, List.reverse_append, List.reverse_cons, List.reverse_nil, List.nil_append, List.singleton_append]
      rw [show (48 + ((u % 10 : Nat) : Int)).toNat = 48 + u % 10 by omega]
      rw [show digs0 (u / 10) ++ UInt8.ofNat (48 + u % 10) :: (l.map fun x => UInt8.ofNat x.toNat).reverse = (digs0 (u / 10) ++ [UInt8.ofNat (48 + u % 10)]) ++ (l.map fun x => UInt8.ofNat x.toNat).reverse by simp]
      rw [digs0_app]
      rcases h' with h' | rfl
      · by_cases hl0 : l = []
        · rw [hl0, first hl0]; simp
        · rw [if_neg hl0, digs0, if_neg (by omega)] at same
          exact same
      · rw [first rfl]; simp
    · intro h; simp at h
    · refine ⟨by simp; omega, ?_⟩
      have h1 : 20 - l.length = (19 - l.length) + 1 := by omega
      rw [h1, Nat.pow_succ] at len
      rw [List.length_append, List.length_singleton, show 20 - (l.length + 1) = 19 - l.length by omega]
      omega
    · show 21 - (l ++ [_]).length < 21 - l.length
      simp; omega
    · exact hq
    · show l.length + 1 = (l ++ [_]).length
      simp
    · intro i hi
      have := app_list .u8 l (48 + ((u % 10 : Nat) : Int)) i hi
      refine Eq.trans ?_ this
      show app l.length _ (fun _ => [D.int .u8 (IntKind.u8.wrap (IntKind.u64.wrap (48 + (u : Int).tmod 10)))]) i = _
      rw [hd]
  · have h' : u = 0 ∧ l ≠ [] := by
      simp only [Bool.or_eq_false_iff, decide_eq_false_iff_not] at h
      exact ⟨by omega, fun e => h.2 (by rw [e]; rfl)⟩
    obtain ⟨rfl, hne⟩ := h'
    rw [if_neg hne, digs0, if_pos rfl, List.nil_append] at same
    refine x.call [0] rfl trivial rfl (reverse_spec l.length (fun k => l.getD k 0) (by unfold big; omega)) rfl ⟨rfl, trivial⟩ ⟨⟨rfl, rfl, rfl, fun _ _ => rfl⟩, trivial⟩ ?_
    refine x.exit rfl ?_ ?_
    · refine ⟨fun i hi => trivial, ?_⟩
      show (((ba (sgV n)).size + (bytesOf l.length fun k => [D.int .u8 (l.getD (l.length - 1 - k) 0)]).size : Nat) : Int) ≤ 9223372036854775807
      rw [bytesOf_ba, ba_size, ba_size]
      have : (sgV n).length ≤ 1 := by unfold sgV; split <;> simp
      simp only [List.length_map, List.length_range]
      omega
    refine ⟨.inr rfl, ?_, trivial, rfl⟩
    show ba (sgV n) ++ bytesOf l.length (fun k => [D.int .u8 (l.getD (l.length - 1 - k) 0)]) = showV n
    rw [bytesOf_ba, turn_list, same, ba_app]
    rfl

end Go.Proofs.YteeofakohenpoaaDoor

/- What is written of an instruction. -/
namespace Go.Proofs.YteeofakohenpoaaDoor
open Go.Sx
set_option linter.unusedVariables false
set_option linter.unusedSimpArgs false
set_option maxRecDepth 100000

theorem join_spec (xs : List ByteArray) (sep : ByteArray) (hN : xs.length ≤ okL) (hlen : (joinB xs sep).size ≤ okL) : Pure PG 24 [.d (dStrs xs), vs sep] (vs (joinB xs sep)) [] :=
  Pure.ofJoin (P := PG) Tryd.lays156 Tryd.Builder_Extra_156 (callable_of Tryd.func24 (by kernel_rfl) (by kernel_rfl)) xs sep hN hlen
theorem words_spec (xs : List ByteArray) (hN : xs.length ≤ okL) (hlen : (joinB xs spS).size ≤ okL) : Pure PG 22 [.d (dStrs xs)] (vs (joinB xs spS)) [] := by
  refine Proc.mk (cfg 5) tysOK [] Tryd.func22 rfl (by kernel_rfl) rfl rfl rfl ?_
  intro C x
  refine x.pure rfl trivial rfl (join_spec xs spS hN hlen) ⟨veq_d rfl, rfl, trivial⟩ ?_
  refine x.exit rfl trivial ?_
  exact ⟨.inr rfl, rfl, trivial, rfl⟩
theorem ev2 {α : Type} {f g : Nat → α} (h0 : f 0 = g 0) (h1 : f 1 = g 1) : ∀ i, i < 2 → f i = g i
  | 0, _ => h0
  | 1, _ => h1
  | n + 2, h => by omega
theorem ev3 {α : Type} {f g : Nat → α} (h0 : f 0 = g 0) (h1 : f 1 = g 1) (h2 : f 2 = g 2) : ∀ i, i < 3 → f i = g i
  | 0, _ => h0
  | 1, _ => h1
  | 2, _ => h2
  | n + 3, h => by omega
theorem ev4 {α : Type} {f g : Nat → α} (h0 : f 0 = g 0) (h1 : f 1 = g 1) (h2 : f 2 = g 2) (h3 : f 3 = g 3) : ∀ i, i < 4 → f i = g i
  | 0, _ => h0
  | 1, _ => h1
  | 2, _ => h2
  | 3, _ => h3
  | n + 4, h => by omega
theorem right_len {x : Ins} (h : rightI x = true) {n : Int} {d r a : Bool} (hs : shapeV x.kind = some (n, d, r, a)) (h3 : x.kind ≠ 3) (hn : 0 ≤ n) : (x.args.length : Int) = n := by
  rcases right_cases h with ⟨h1, _⟩ | ⟨n', d', r', a', e, _, hi, _⟩
  · exact absurd h1 h3
  · rw [hs] at e
    obtain ⟨rfl, rfl, rfl, rfl⟩ : n = n' ∧ d = d' ∧ r = r' ∧ a = a' := by simpa using e
    exact hi.alen.1 hn
theorem right_ten {x : Ins} (h : rightI x = true) (h1 : x.kind ≠ 1) (h2 : x.kind ≠ 2) (h3 : x.kind ≠ 3) (h4 : x.kind ≠ 4) (h5 : x.kind ≠ 5) (h6 : x.kind ≠ 6) (h7 : x.kind ≠ 7) (h8 : x.kind ≠ 8) (h9 : x.kind ≠ 9) (h11 : x.kind ≠ 11) (h12 : x.kind ≠ 12) (h13 : x.kind ≠ 13) : x.kind = 10 := by
  rcases right_cases h with ⟨h1, _⟩ | ⟨n', d', r', a', e, _, _⟩
  · exact absurd h1 h3
  · refine Classical.byContradiction fun h10 => ?_
    unfold shapeV at e
    rw [if_neg h1, if_neg h2, if_neg h4, if_neg h5, if_neg h6, if_neg h7, if_neg h8, if_neg h9, if_neg h10, if_neg h11, if_neg h12, if_neg h13] at e
    cases e
theorem sz40 : (⟨#[40]⟩ : ByteArray).size = 1 := rfl
theorem sz41 : (⟨#[41]⟩ : ByteArray).size = 1 := rfl
theorem sz58 : (⟨#[58, 32]⟩ : ByteArray).size = 2 := rfl
theorem sz93 : (⟨#[93]⟩ : ByteArray).size = 1 := rfl
theorem sz112 : (⟨#[112, 104, 105, 32, 91]⟩ : ByteArray).size = 5 := rfl
/-- How far the pairs of a phi are written. -/
structure PhW (n : Nat) where
  i : Nat
  hi : i ≤ n
set_option maxHeartbeats 4000000 in
theorem value_spec (x0 : Ins) (hx : FitI x0) (hr : rightI x0 = true) (h6 : x0.kind ≠ 6) (h9 : x0.kind ≠ 9) (h11 : x0.kind ≠ 11) (h12 : x0.kind ≠ 12) (h13 : x0.kind ≠ 13) : Pure PG 47 [insV x0] (vs (valueP x0)) [] := by
  refine Proc.mk (cfg 102) tysOK [] Tryd.func47 rfl (by kernel_rfl) rfl rfl rfl ?_
  intro C x
  have hs := right_small hr
  have hz := value_size hs hx.num
  have hal := hs.alen
  have hfl := hs.flen
  unfold valueP at hz ⊢
  refine x.cond rfl trivial (fun h1 => ?_) (fun h1 => ?_)
  · have h1 : x0.kind = 1 := of_decide_eq_true h1
    rw [if_pos h1] at hz ⊢
    refine x.pure rfl trivial rfl (show_spec x0.num hx.num) ⟨rfl, trivial⟩ ?_
    refine x.op rfl trivial ?_
    refine Sx.Go.freeze 1 ?_
    refine x.pure rfl trivial rfl (words_spec [⟨#[99, 111, 110, 115, 116]⟩, showV x0.num] (Nat.le_of_ble_eq_true rfl) (by unfold okL; omega)) ⟨⟨rfl, fun _ => rfl, ev2 rfl rfl⟩, trivial⟩ ?_
    refine x.exit rfl trivial ?_
    exact ⟨.inr rfl, rfl, trivial, rfl⟩
  have h1 : ¬ x0.kind = 1 := of_decide_eq_false h1
  rw [if_neg h1] at hz ⊢
  refine x.cond rfl trivial (fun h2 => ?_) (fun h2 => ?_)
  · have h2 : x0.kind = 2 := of_decide_eq_true h2
    rw [if_pos h2] at hz ⊢
    have hl := right_len hr (n := 2) (by rw [h2]; rfl) (by omega) (by omega)
    refine x.draw [] [] [0, 1, 3, 4, 5, 6, 7, 8, 9, 10] [2] [11, 12, 13] rfl trivial mixedP (by kernel_rfl) Ret.noPanic.quiet rfl (by simp only [AllP]; omega) (fun C1 x1 => ?_)
    refine x1.pure rfl trivial rfl (opname_spec x0.op hx.op.1 hx.op.2) ⟨rfl, trivial⟩ ?_
    refine x1.back rfl trivial ?_
    refine x.op rfl trivial ?_
    refine Sx.Go.freeze 1 ?_
    refine x.pure rfl trivial rfl (words_spec [opName x0.op, x0.args.getD 0 .empty, x0.args.getD 1 .empty] (Nat.le_of_ble_eq_true rfl) (by unfold okL; omega)) ⟨⟨rfl, fun _ => rfl, ev3 rfl rfl rfl⟩, trivial⟩ ?_
    refine x.exit rfl trivial ?_
    exact ⟨.inr rfl, rfl, trivial, rfl⟩
  have h2 : ¬ x0.kind = 2 := of_decide_eq_false h2
  rw [if_neg h2] at hz ⊢
  refine x.cond rfl trivial (fun h3 => ?_) (fun h3 => ?_)
  · have h3 : x0.kind = 3 := of_decide_eq_true h3
    rw [if_pos h3] at hz ⊢
    have hlen : x0.frm.length = x0.args.length := by
      rcases right_cases hr with ⟨_, hp⟩ | ⟨n', d', r', a', e, hne, _⟩
      · exact hp.len.1
      · exact absurd h3 hne
    have hj := joinB_size commaS 194 (phiN x0 x0.frm.length) (phi_size hs _)
    rw [phiN_len] at hj
    have hj2 : (joinB (phiN x0 x0.frm.length) commaS).size ≤ 64 * 196 := Nat.le_trans hj (Nat.mul_le_mul_right _ hs.flen)
    refine x.toLoop rfl trivial ?_
    refine Go.own 3 9 1 (fun i => [.str (([] : List ByteArray).getD i .empty)]) rfl ?_
    refine x.loop (α := PhW x0.frm.length) (fun y => ⟨[(1, .ptr 0 0), (3, .own 1), (33, .d (dStrs x0.frm)), (34, vi x0.frm.length), (35, vi (y.i : Int))], [(0, .box [.d (.int .u8 x0.kind), .d (.int .u8 x0.op), vs x0.dst, vs x0.ref, vs x0.alt, .d (dStrs x0.args), .d (dStrs x0.frm), vi x0.num, vi x0.at_]), (1, strC (phiN x0 y.i))], 2⟩) (fun y => x0.frm.length - y.i) ⟨0, Nat.zero_le _⟩ rfl trivial ⟨⟨⟨rfl, rfl⟩, rfl, veq_d rfl, rfl, rfl, trivial⟩, ⟨⟨rfl, rfl, rfl, rfl, rfl, veq0_d rfl, veq0_d rfl, rfl, rfl, trivial⟩, ⟨rfl, rfl, rfl, fun j hj => absurd hj (Nat.not_lt_zero _)⟩, trivial⟩, rfl⟩ (fun y => ?_)
    obtain ⟨i, hi⟩ := y
    change Go C _ ⟨[(1, .ptr 0 0), (3, .own 1), (33, .d (dStrs x0.frm)), (34, vi x0.frm.length), (35, vi (i : Int))], [(0, .box [.d (.int .u8 x0.kind), .d (.int .u8 x0.op), vs x0.dst, vs x0.ref, vs x0.alt, .d (dStrs x0.args), .d (dStrs x0.frm), vi x0.num, vi x0.at_]), (1, strC (phiN x0 i))], 2⟩ _
    refine x.cond rfl trivial (fun h => ?_) (fun h => ?_)
    · have h : (i : Int) < (x0.frm.length : Int) := of_decide_eq_true h
      have g1 := getD_small hs.frm i
      have g2 := getD_small hs.args i
      refine x.back rfl (by simp only [AllP, inI64, big, phiN_len, app_size, sz58, Int.toNat_natCast]; omega) ⟨⟨i + 1, by omega⟩, by show x0.frm.length - (i + 1) < x0.frm.length - i; omega, ⟨⟨rfl, rfl⟩, rfl, veq_d rfl, rfl, ?_, trivial⟩, ⟨⟨rfl, rfl, rfl, rfl, rfl, veq0_d rfl, veq0_d rfl, rfl, rfl, trivial⟩, ⟨rfl, rfl, ?_, fun j hj => ?_⟩, trivial⟩, rfl⟩
      · show VEq0 (vi ((i : Int) + 1)) (vi ((i + 1 : Nat) : Int)); rw [Int.natCast_add]; rfl
      · show (phiN x0 i).length + 1 = (phiN x0 (i + 1)).length
        rw [phiN_len, phiN_len]
      · rw [phiN_succ]
        exact app_str (phiN x0 i) _ j hj
    · have h : ¬ (i : Int) < (x0.frm.length : Int) := of_decide_eq_false h
      obtain rfl : i = x0.frm.length := by omega
      refine Sx.Go.freeze 1 ?_
      refine x.pure rfl trivial rfl (join_spec (phiN x0 x0.frm.length) commaS (by rw [phiN_len]; unfold okL; omega) (by unfold okL; omega)) ⟨veq_d rfl, rfl, trivial⟩ ?_
      refine x.exit rfl (by simp only [AllP, app_size, sz93, sz112]; omega) ?_
      exact ⟨.inr rfl, rfl, trivial, rfl⟩
  have h3 : ¬ x0.kind = 3 := of_decide_eq_false h3
  rw [if_neg h3] at hz ⊢
  refine x.cond rfl trivial (fun h4 => ?_) (fun h4 => ?_)
  · have h4 : x0.kind = 4 := of_decide_eq_true h4
    rw [if_pos h4] at hz ⊢
    have hl := right_len hr (n := 1) (by rw [h4]; rfl) (by omega) (by omega)
    refine x.draw [] [] [0, 1, 2, 3, 4, 5] [] [6, 7, 8] rfl trivial mixedP (by kernel_rfl) Ret.noPanic.quiet rfl (by simp only [AllP]; omega) (fun C1 x1 => ?_)
    refine x.op rfl trivial ?_
    refine Sx.Go.freeze 1 ?_
    refine x.pure rfl trivial rfl (words_spec [⟨#[108, 111, 97, 100]⟩, x0.ref, x0.args.getD 0 .empty] (Nat.le_of_ble_eq_true rfl) (by unfold okL; omega)) ⟨⟨rfl, fun _ => rfl, ev3 rfl rfl rfl⟩, trivial⟩ ?_
    refine x.exit rfl trivial ?_
    exact ⟨.inr rfl, rfl, trivial, rfl⟩
  have h4 : ¬ x0.kind = 4 := of_decide_eq_false h4
  rw [if_neg h4] at hz ⊢
  refine x.cond rfl trivial (fun h5 => ?_) (fun h5 => ?_)
  · have h5 : x0.kind = 5 := of_decide_eq_true h5
    rw [if_pos h5] at hz ⊢
    have hl := right_len hr (n := 1) (by rw [h5]; rfl) (by omega) (by omega)
    refine x.draw [] [] [0, 1, 2, 3, 4, 5] [] [6, 7, 8] rfl trivial mixedP (by kernel_rfl) Ret.noPanic.quiet rfl (by simp only [AllP]; omega) (fun C1 x1 => ?_)
    refine x.op rfl trivial ?_
    refine Sx.Go.freeze 1 ?_
    refine x.pure rfl trivial rfl (words_spec [⟨#[119, 114, 97, 112]⟩, x0.ref, x0.args.getD 0 .empty] (Nat.le_of_ble_eq_true rfl) (by unfold okL; omega)) ⟨⟨rfl, fun _ => rfl, ev3 rfl rfl rfl⟩, trivial⟩ ?_
    refine x.exit rfl trivial ?_
    exact ⟨.inr rfl, rfl, trivial, rfl⟩
  have h5 : ¬ x0.kind = 5 := of_decide_eq_false h5
  rw [if_neg h5] at hz ⊢
  refine x.cond rfl trivial (fun h7 => ?_) (fun h7 => ?_)
  · have h7 : x0.kind = 7 := of_decide_eq_true h7
    rw [if_pos h7] at hz ⊢
    have hj := joinB_size commaS 96 x0.args hs.args
    have hj2 : (joinB x0.args commaS).size ≤ 64 * 98 := Nat.le_trans hj (Nat.mul_le_mul_right _ hs.alen)
    refine x.draw [] [] [0, 1, 2, 3, 4] [5] [6, 7, 8, 9, 10] rfl trivial mixedP (by kernel_rfl) Ret.noPanic.quiet rfl (by have := hs.ref; simp only [AllP, sz40]; omega) (fun C1 x1 => ?_)
    refine x1.pure rfl trivial rfl (join_spec x0.args commaS (by unfold okL; omega) (by unfold okL; omega)) ⟨veq_d rfl, rfl, trivial⟩ ?_
    refine x1.back rfl trivial ?_
    refine x.op rfl (by have := hs.ref; simp only [AllP, app_size, sz40, sz41]; omega) ?_
    refine Sx.Go.freeze 1 ?_
    refine x.pure rfl trivial rfl (words_spec [⟨#[99, 97, 108, 108]⟩, ((x0.ref ++ (⟨#[40]⟩ : ByteArray)) ++ joinB x0.args commaS) ++ (⟨#[41]⟩ : ByteArray)] (Nat.le_of_ble_eq_true rfl) (by unfold okL; omega)) ⟨⟨rfl, fun _ => rfl, ev2 rfl rfl⟩, trivial⟩ ?_
    refine x.exit rfl trivial ?_
    exact ⟨.inr rfl, rfl, trivial, rfl⟩
  have h7 : ¬ x0.kind = 7 := of_decide_eq_false h7
  rw [if_neg h7] at hz ⊢
  refine x.cond rfl trivial (fun h8 => ?_) (fun h8 => ?_)
  · have h8 : x0.kind = 8 := of_decide_eq_true h8
    rw [if_pos h8] at hz ⊢
    refine x.op rfl trivial ?_
    refine Sx.Go.freeze 1 ?_
    refine x.pure rfl trivial rfl (words_spec [⟨#[105, 110, 112, 117, 116]⟩, x0.ref] (Nat.le_of_ble_eq_true rfl) (by unfold okL; omega)) ⟨⟨rfl, fun _ => rfl, ev2 rfl rfl⟩, trivial⟩ ?_
    refine x.exit rfl trivial ?_
    exact ⟨.inr rfl, rfl, trivial, rfl⟩
  have h8 : ¬ x0.kind = 8 := of_decide_eq_false h8
  rw [if_neg h8] at hz ⊢
  have h10 := right_ten hr h1 h2 h3 h4 h5 h6 h7 h8 h9 h11 h12 h13
  have hl := right_len hr (n := 1) (by rw [h10]; rfl) (by omega) (by omega)
  refine x.draw [] [] [0, 1, 2, 3, 4, 5] [] [6, 7, 8] rfl trivial mixedP (by kernel_rfl) Ret.noPanic.quiet rfl (by simp only [AllP]; omega) (fun C1 x1 => ?_)
  refine x.op rfl trivial ?_
  refine Sx.Go.freeze 1 ?_
  refine x.pure rfl trivial rfl (words_spec [⟨#[114, 101, 108, 101, 97, 115, 101]⟩, x0.args.getD 0 .empty, x0.ref] (Nat.le_of_ble_eq_true rfl) (by unfold okL; omega)) ⟨⟨rfl, fun _ => rfl, ev3 rfl rfl rfl⟩, trivial⟩ ?_
  refine x.exit rfl trivial ?_
  exact ⟨.inr rfl, rfl, trivial, rfl⟩
set_option maxHeartbeats 4000000 in
theorem line_spec (x0 : Ins) (hx : FitI x0) (hr : rightI x0 = true) : Pure PG 25 [insV x0] (vs (lineP x0)) [] := by
  refine Proc.mk (cfg 61) tysOK [] Tryd.func25 rfl (by kernel_rfl) rfl rfl rfl ?_
  intro C x
  have hs := right_small hr
  have hz := line_size hs hx.num
  unfold lineP at hz ⊢
  refine x.cond rfl trivial (fun h6 => ?_) (fun h6 => ?_)
  · have h6 : x0.kind = 6 := of_decide_eq_true h6
    rw [if_pos h6] at hz ⊢
    have hl := right_len hr (n := 2) (by rw [h6]; rfl) (by omega) (by omega)
    refine x.draw [] [] [0, 1, 2, 3, 4, 5, 6, 7, 8, 9] [] [10, 11, 12] rfl trivial mixedP (by kernel_rfl) Ret.noPanic.quiet rfl (by simp only [AllP]; omega) (fun C1 x1 => ?_)
    refine x.op rfl trivial ?_
    refine Sx.Go.freeze 1 ?_
    refine x.pure rfl trivial rfl (words_spec [⟨#[115, 116, 111, 114, 101]⟩, x0.ref, x0.args.getD 0 .empty, x0.args.getD 1 .empty] (Nat.le_of_ble_eq_true rfl) (by unfold okL; omega)) ⟨⟨rfl, fun _ => rfl, ev4 rfl rfl rfl rfl⟩, trivial⟩ ?_
    refine x.exit rfl trivial ?_
    exact ⟨.inr rfl, rfl, trivial, rfl⟩
  have h6 : ¬ x0.kind = 6 := of_decide_eq_false h6
  rw [if_neg h6] at hz ⊢
  refine x.cond rfl trivial (fun h9 => ?_) (fun h9 => ?_)
  · have h9 : x0.kind = 9 := of_decide_eq_true h9
    rw [if_pos h9] at hz ⊢
    have hl := right_len hr (n := 1) (by rw [h9]; rfl) (by omega) (by omega)
    refine x.draw [] [] [0, 1, 2, 3, 4, 5] [] [6, 7, 8] rfl trivial mixedP (by kernel_rfl) Ret.noPanic.quiet rfl (by simp only [AllP]; omega) (fun C1 x1 => ?_)
    refine x.op rfl trivial ?_
    refine Sx.Go.freeze 1 ?_
    refine x.pure rfl trivial rfl (words_spec [⟨#[111, 117, 116, 112, 117, 116]⟩, x0.ref, x0.args.getD 0 .empty] (Nat.le_of_ble_eq_true rfl) (by unfold okL; omega)) ⟨⟨rfl, fun _ => rfl, ev3 rfl rfl rfl⟩, trivial⟩ ?_
    refine x.exit rfl trivial ?_
    exact ⟨.inr rfl, rfl, trivial, rfl⟩
  have h9 : ¬ x0.kind = 9 := of_decide_eq_false h9
  rw [if_neg h9] at hz ⊢
  refine x.cond rfl trivial (fun h11 => ?_) (fun h11 => ?_)
  · have h11 : x0.kind = 11 := of_decide_eq_true h11
    rw [if_pos h11] at hz ⊢
    refine x.op rfl trivial ?_
    refine Sx.Go.freeze 1 ?_
    refine x.pure rfl trivial rfl (words_spec [⟨#[106, 117, 109, 112]⟩, x0.ref] (Nat.le_of_ble_eq_true rfl) (by unfold okL; omega)) ⟨⟨rfl, fun _ => rfl, ev2 rfl rfl⟩, trivial⟩ ?_
    refine x.exit rfl trivial ?_
    exact ⟨.inr rfl, rfl, trivial, rfl⟩
  have h11 : ¬ x0.kind = 11 := of_decide_eq_false h11
  rw [if_neg h11] at hz ⊢
  refine x.cond rfl trivial (fun h12 => ?_) (fun h12 => ?_)
  · have h12 : x0.kind = 12 := of_decide_eq_true h12
    rw [if_pos h12] at hz ⊢
    have hl := right_len hr (n := 1) (by rw [h12]; rfl) (by omega) (by omega)
    refine x.draw [] [] [0, 1, 2, 3, 4, 5, 6, 7] [] [8, 9, 10] rfl trivial mixedP (by kernel_rfl) Ret.noPanic.quiet rfl (by simp only [AllP]; omega) (fun C1 x1 => ?_)
    refine x.op rfl trivial ?_
    refine Sx.Go.freeze 1 ?_
    refine x.pure rfl trivial rfl (words_spec [⟨#[98, 114, 97, 110, 99, 104]⟩, x0.args.getD 0 .empty, x0.ref, x0.alt] (Nat.le_of_ble_eq_true rfl) (by unfold okL; omega)) ⟨⟨rfl, fun _ => rfl, ev4 rfl rfl rfl rfl⟩, trivial⟩ ?_
    refine x.exit rfl trivial ?_
    exact ⟨.inr rfl, rfl, trivial, rfl⟩
  have h12 : ¬ x0.kind = 12 := of_decide_eq_false h12
  rw [if_neg h12] at hz ⊢
  refine x.cond rfl trivial (fun h13 => ?_) (fun h13 => ?_)
  · have h13 : x0.kind = 13 := of_decide_eq_true h13
    rw [if_pos h13] at hz ⊢
    have hl := right_len hr (n := 1) (by rw [h13]; rfl) (by omega) (by omega)
    refine x.op rfl (by simp only [AllP]; omega) ?_
    refine Sx.Go.freeze 1 ?_
    refine x.pure rfl trivial rfl (words_spec [⟨#[114, 101, 116, 117, 114, 110]⟩, x0.args.getD 0 .empty] (Nat.le_of_ble_eq_true rfl) (by unfold okL; omega)) ⟨⟨rfl, fun _ => rfl, ev2 rfl rfl⟩, trivial⟩ ?_
    refine x.exit rfl trivial ?_
    exact ⟨.inr rfl, rfl, trivial, rfl⟩
  have h13 : ¬ x0.kind = 13 := of_decide_eq_false h13
  rw [if_neg h13] at hz ⊢
  refine x.draw [] [] [0, 1, 2] [3] [4, 5, 6] rfl trivial mixedP (by kernel_rfl) Ret.noPanic.quiet rfl trivial (fun C1 x1 => ?_)
  refine x1.pure rfl trivial rfl (value_spec x0 hx hr h6 h9 h11 h12 h13) ⟨⟨rfl, rfl, rfl, rfl, rfl, veq0_d rfl, veq0_d rfl, rfl, rfl, trivial⟩, trivial⟩ ?_
  refine x1.back rfl trivial ?_
  refine x.op rfl trivial ?_
  refine Sx.Go.freeze 1 ?_
  refine x.pure rfl trivial rfl (words_spec [x0.dst, ⟨#[61]⟩, valueP x0] (Nat.le_of_ble_eq_true rfl) (by unfold okL; omega)) ⟨⟨rfl, fun _ => rfl, ev3 rfl rfl rfl⟩, trivial⟩ ?_
  refine x.exit rfl trivial ?_
  exact ⟨.inr rfl, rfl, trivial, rfl⟩
/-- What Line gives: the text, and the error. -/
def lineR (x : Ins) : ByteArray × Int := if rightI x = true then (lineP x, 0) else (.empty, 1)
theorem lineFn_spec (x0 : Ins) (hx : FitI x0) : Pure PG 12 [insV x0] (.tup [vs (lineR x0).1, vi (lineR x0).2]) [] := by
  refine Proc.mk (cfg 9) tysOK [] Tryd.func12 rfl (by kernel_rfl) rfl rfl rfl ?_
  intro C x
  refine x.pure rfl trivial rfl (right_spec x0 hx) ⟨⟨rfl, rfl, rfl, rfl, rfl, veq0_d rfl, veq0_d rfl, rfl, rfl, trivial⟩, trivial⟩ ?_
  unfold lineR
  refine x.cond rfl trivial (fun h => ?_) (fun h => ?_)
  · have h : (!rightI x0) = true := h
    rw [if_neg (by simpa using h)]
    refine x.exit rfl trivial ?_
    exact ⟨.inr rfl, ⟨rfl, rfl, trivial⟩, trivial, rfl⟩
  · have h : (!rightI x0) = false := h
    have h : rightI x0 = true := by simpa using h
    rw [if_pos h]
    refine x.pure rfl trivial rfl (line_spec x0 hx h) ⟨⟨rfl, rfl, rfl, rfl, rfl, veq0_d rfl, veq0_d rfl, rfl, rfl, trivial⟩, trivial⟩ ?_
    refine x.exit rfl trivial ?_
    exact ⟨.inr rfl, ⟨rfl, rfl, trivial⟩, trivial, rfl⟩
end Go.Proofs.YteeofakohenpoaaDoor

/- May a function, a program be? -/
namespace Go.Proofs.YteeofakohenpoaaDoor
open Go.Sx
set_option linter.unusedVariables false
set_option linter.unusedSimpArgs false
set_option maxRecDepth 100000

theorem all_allF {α : Type} (l : List α) (p : α → Bool) (d : α) : allF (fun i => p (l.getD i d)) l.length 0 = l.all p := by
  rw [Bool.eq_iff_iff, allF_iff, List.all_eq_true]
  constructor
  · intro h x hx
    obtain ⟨i, hi, rfl⟩ := List.getElem_of_mem hx
    have := h i (Nat.zero_le _) (by omega)
    rwa [List.getD_eq_getElem?_getD, List.getElem?_eq_getElem hi] at this
  · intro h j _ hj
    exact h _ (getD_mem (by omega))
theorem sum_mem {l : List Nat} {a : Nat} (h : a ∈ l) : a ≤ l.sum := by
  induction l with
  | nil => cases h
  | cons b r ih =>
    rw [List.sum_cons]
    rcases List.mem_cons.1 h with rfl | h
    · omega
    · have := ih h; omega
def sumC (bs : List Blk) (i : Nat) : Nat := ((bs.take i).map fun b => b.code.length).sum
theorem sumC_succ {bs : List Blk} {i : Nat} (h : i < bs.length) : sumC bs (i + 1) = sumC bs i + (bs.getD i blk0).code.length := by
  unfold sumC
  rw [List.take_succ_eq_append_getElem h, List.map_append, List.sum_append, List.getD_eq_getElem?_getD, List.getElem?_eq_getElem h]
  simp
theorem sumC_le {bs : List Blk} {k : Nat} (h : ∀ b, b ∈ bs → b.code.length ≤ k) : ∀ i, i ≤ bs.length → sumC bs i ≤ i * k
  | 0, _ => by simp [sumC]
  | i + 1, hi => by
    have := sumC_le h i (by omega)
    have h2 := h _ (getD_mem (d := blk0) (show i < bs.length by omega))
    rw [sumC_succ (by omega), Nat.succ_mul]
    omega
structure FitB (b : Blk) : Prop where
  name : b.name.size ≤ okL
  len : b.code.length ≤ bigL
  code : ∀ x, x ∈ b.code → FitI x
structure FitF (f : Fun) : Prop where
  name : f.name.size ≤ okL
  plen : f.params.length ≤ bigN
  params : ∀ a, a ∈ f.params → a.size ≤ okL
  blen : f.blocks.length ≤ bigL
  blocks : ∀ b, b ∈ f.blocks → FitB b
structure FitA (a : Arr) : Prop where
  name : a.name.size ≤ okL
  level : a.level.size ≤ okL
  size : inI64 a.size
structure FitP (p : Prg) : Prop where
  alen : p.arrays.length ≤ bigL
  arrays : ∀ a, a ∈ p.arrays → FitA a
  flen : p.funcs.length ≤ bigL
  funcs : ∀ f, f ∈ p.funcs → FitF f
def fN (f : Fun) : Nat := (f.blocks.map fun b => b.code.length).sum
theorem sumC_all (f : Fun) : sumC f.blocks f.blocks.length = fN f := by unfold sumC fN; rw [List.take_length]
def funR (f : Fun) : Int × Bool := if funOK f = true then ((fN f : Int), true) else (0, false)
set_option maxHeartbeats 4000000 in
theorem function_spec (f : Fun) (hf : FitF f) : Pure PG 29 [fnV f] (.tup [vi (funR f).1, vb (funR f).2]) [] := by
  refine Proc.mk (cfg 66) tysOK [] Tryd.func29 rfl (by kernel_rfl) rfl rfl rfl ?_
  intro C x
  obtain ⟨f1, f2, f3, f4, f5⟩ := hf
  have f4' := f4
  unfold bigL at f4'
  refine x.pure rfl trivial rfl (pname_spec f.name f1) ⟨rfl, trivial⟩ ?_
  refine x.pureG rfl trivial rfl (fun _ => pnames_spec f.params f2 f3) rfl ⟨veq_d rfl, trivial⟩ ?_
  have ec : (!okN f.name || !allN f.params || decide (6 < f.params.length) || decide (f.blocks.length < 1) || decide (64 < f.blocks.length)) = (((((!okN f.name || !allN f.params) || decide ((6 : Int) < f.params.length)) || decide ((f.blocks.length : Int) < 1))) || decide ((64 : Int) < f.blocks.length)) := by
    rw [show decide ((6 : Int) < f.params.length) = decide (6 < f.params.length) by rw [decide_eq_decide]; omega, show decide ((f.blocks.length : Int) < 1) = decide (f.blocks.length < 1) by rw [decide_eq_decide]; omega, show decide ((64 : Int) < f.blocks.length) = decide (64 < f.blocks.length) by rw [decide_eq_decide]; omega]
  refine x.cond rfl trivial (fun h => ?_) (fun h => ?_)
  · have h : (((((!okN f.name || !allN f.params) || decide ((6 : Int) < f.params.length)) || decide ((f.blocks.length : Int) < 1))) || decide ((64 : Int) < f.blocks.length)) = true := h
    have hF : funOK f = false := by unfold funOK; rw [ec, h]; rfl
    refine x.exit rfl trivial ?_
    unfold funR
    rw [hF]
    exact ⟨.inr rfl, ⟨rfl, rfl, trivial⟩, trivial, rfl⟩
  have h : (((((!okN f.name || !allN f.params) || decide ((6 : Int) < f.params.length)) || decide ((f.blocks.length : Int) < 1))) || decide ((64 : Int) < f.blocks.length)) = false := h
  have h64 : f.blocks.length ≤ 64 := by
    simp only [Bool.or_eq_false_iff, decide_eq_false_iff_not] at h
    omega
  obtain ⟨R, hR⟩ : ∃ R, f.blocks.all blkOK = R := ⟨_, rfl⟩
  have hF : funOK f = R := by unfold funOK; rw [ec, h, hR]; simp
  have hR2 : allF (fun i => blkOK (f.blocks.getD i blk0)) f.blocks.length 0 = R := by rw [all_allF]; exact hR
  have bad : R = false → funR f = (0, false) := fun e => by unfold funR; rw [hF, e]; rfl
  have good : R = true → funR f = ((fN f : Int), true) := fun e => by unfold funR; rw [hF, e]; rfl
  clear h ec
  have hsum := sumC_le (k := bigL) (fun b hb => (f5 b hb).len)
  unfold bigL at hsum
  refine x.loop (α := AW (fun i => blkOK (f.blocks.getD i blk0)) f.blocks.length R) (fun y => ⟨[(1, .ptr 0 0), (4, vi (sumC f.blocks y.i)), (38, .d (dBlks f.blocks)), (39, vi f.blocks.length), (40, vi (y.i : Int))], [(0, .box [vs f.name, .d (dStrs f.params), .d (dBlks f.blocks), vi f.at_])], 1⟩) (fun y => f.blocks.length - y.i) ⟨0, Nat.zero_le _, hR2⟩ rfl trivial ⟨⟨⟨rfl, rfl⟩, rfl, veq_d rfl, rfl, rfl, trivial⟩, ⟨⟨rfl, veq0_d rfl, veq0_d rfl, rfl, trivial⟩, trivial⟩, rfl⟩ (fun y => ?_)
  obtain ⟨i, hi, same⟩ := y
  change Go C _ ⟨[(1, .ptr 0 0), (4, vi (sumC f.blocks i)), (38, .d (dBlks f.blocks)), (39, vi f.blocks.length), (40, vi (i : Int))], [(0, .box [vs f.name, .d (dStrs f.params), .d (dBlks f.blocks), vi f.at_])], 1⟩ _
  refine x.cond rfl trivial (fun h2 => ?_) (fun h2 => ?_)
  rotate_left
  · have h2 : ¬ (i : Int) < (f.blocks.length : Int) := of_decide_eq_false h2
    refine x.exit rfl trivial ?_
    rw [good (AW.fin (by omega) hi same)]
    obtain rfl : i = f.blocks.length := by omega
    rw [← sumC_all]
    exact ⟨.inr rfl, ⟨rfl, rfl, trivial⟩, trivial, rfl⟩
  have h2 : (i : Int) < (f.blocks.length : Int) := of_decide_eq_true h2
  have h2 : i < f.blocks.length := by omega
  have hb := f5 _ (getD_mem (d := blk0) h2)
  have hs2 := sumC_succ h2
  have hs3 := hsum i hi
  have hs4 : i * 1000000000000 ≤ 64 * 1000000000000 := Nat.mul_le_mul_right _ (by omega)
  have hfi : ∀ v, blkOK (f.blocks.getD i blk0) = v → (fun i => blkOK (f.blocks.getD i blk0)) i = v := fun v h => h
  have ei : ((i : Int).toNat) = i := Int.toNat_natCast i
  obtain ⟨b, hbe⟩ : ∃ b, f.blocks.getD i blk0 = b := ⟨_, rfl⟩
  have hbe2 : f.blocks.getD ((i : Int).toNat) blk0 = b := by rw [ei]; exact hbe
  rw [hbe] at hb hs2 hfi
  obtain ⟨b1, b2, b3⟩ := hb
  unfold bigL at b2
  refine x.pure rfl (by simp only [AllP]; omega) rfl (show Pure PG _ [vs (f.blocks.getD ((i : Int).toNat) blk0).name] _ [] from by rw [hbe2]; exact pname_spec b.name b1) ⟨rfl, trivial⟩ ?_
  refine x.cond rfl trivial (fun h3 => ?_) (fun h3 => ?_)
  · have h3 : (!okN b.name) = true := h3
    have hv : blkOK b = false := by unfold blkOK; rw [show okN b.name = false by simpa using h3]; rfl
    refine x.exit rfl trivial ?_
    rw [bad (AW.stop h2 same (hfi _ hv))]
    exact ⟨.inr rfl, ⟨rfl, rfl, trivial⟩, trivial, rfl⟩
  have h3 : (!okN b.name) = false := h3
  obtain ⟨Q, hQ⟩ : ∃ Q, b.code.all rightI = Q := ⟨_, rfl⟩
  have hv : blkOK b = Q := by unfold blkOK; rw [show okN b.name = true by simpa using h3, hQ]; rfl
  have hQ2 : allF (fun i => rightI (b.code.getD i (ins0 0))) b.code.length 0 = Q := by rw [all_allF]; exact hQ
  rw [hv] at hfi
  rw [hbe2]
  refine x.loop (α := AW (fun i => rightI (b.code.getD i (ins0 0))) b.code.length Q) (fun y => ⟨[(1, .ptr 0 0), (4, vi (sumC f.blocks i)), (38, .d (dBlks f.blocks)), (39, vi f.blocks.length), (40, vi (i : Int)), (6, .ptr 1 0), (49, .d (dCode b.code)), (50, vi b.code.length), (51, vi (y.i : Int))], [(0, .box [vs f.name, .d (dStrs f.params), .d (dBlks f.blocks), vi f.at_]), (1, .box [vs b.name, .d (dCode b.code), vi b.at_])], 2⟩) (fun y => b.code.length - y.i) ⟨0, Nat.zero_le _, hQ2⟩ rfl trivial ⟨⟨⟨rfl, rfl⟩, rfl, veq_d rfl, rfl, rfl, ⟨rfl, rfl⟩, veq_d rfl, rfl, rfl, trivial⟩, ⟨⟨rfl, veq0_d rfl, veq0_d rfl, rfl, trivial⟩, ⟨rfl, veq0_d rfl, rfl, trivial⟩, trivial⟩, rfl⟩ (fun y => ?_)
  obtain ⟨k, hk, same2⟩ := y
  change Go C _ ⟨[(1, .ptr 0 0), (4, vi (sumC f.blocks i)), (38, .d (dBlks f.blocks)), (39, vi f.blocks.length), (40, vi (i : Int)), (6, .ptr 1 0), (49, .d (dCode b.code)), (50, vi b.code.length), (51, vi (k : Int))], [(0, .box [vs f.name, .d (dStrs f.params), .d (dBlks f.blocks), vi f.at_]), (1, .box [vs b.name, .d (dCode b.code), vi b.at_])], 2⟩ _
  refine x.cond rfl trivial (fun h4 => ?_) (fun h4 => ?_)
  rotate_left
  · have h4 : ¬ (k : Int) < (b.code.length : Int) := of_decide_eq_false h4
    have hv := AW.fin (by omega) hk same2
    refine x.back rfl (by simp only [AllP, inI64]; omega) ⟨⟨i + 1, by omega, AW.step h2 same (hfi _ hv)⟩, by show f.blocks.length - (i + 1) < f.blocks.length - i; omega, ⟨⟨rfl, rfl⟩, ?_, veq_d rfl, rfl, ?_, trivial⟩, ⟨⟨rfl, veq0_d rfl, veq0_d rfl, rfl, trivial⟩, trivial⟩, rfl⟩
    · show VEq0 (vi ((sumC f.blocks i : Int) + b.code.length)) (vi (sumC f.blocks (i + 1) : Int))
      rw [hs2, Int.natCast_add]; rfl
    · show VEq0 (vi ((i : Int) + 1)) (vi ((i + 1 : Nat) : Int)); rw [Int.natCast_add]; rfl
  have h4 : (k : Int) < (b.code.length : Int) := of_decide_eq_true h4
  have h4 : k < b.code.length := by omega
  refine x.pure rfl (by simp only [AllP]; omega) rfl (right_spec (b.code.getD ((k : Int).toNat) (ins0 0)) (by rw [Int.toNat_natCast]; exact b3 _ (getD_mem h4))) ⟨⟨rfl, rfl, rfl, rfl, rfl, veq0_d rfl, veq0_d rfl, rfl, rfl, trivial⟩, trivial⟩ ?_
  rw [Int.toNat_natCast]
  refine x.cond rfl trivial (fun h5 => ?_) (fun h5 => ?_)
  · have h5 : (!rightI (b.code.getD k (ins0 0))) = true := h5
    refine x.exit rfl trivial ?_
    rw [bad (AW.stop h2 same (hfi _ (AW.stop h4 same2 (by simpa using h5))))]
    exact ⟨.inr rfl, ⟨rfl, rfl, trivial⟩, trivial, rfl⟩
  · have h5 : (!rightI (b.code.getD k (ins0 0))) = false := h5
    refine x.back rfl (by simp only [AllP, inI64]; omega) ⟨⟨k + 1, by omega, AW.step h4 same2 (by simpa using h5)⟩, by show b.code.length - (k + 1) < b.code.length - k; omega, ⟨⟨rfl, rfl⟩, rfl, veq_d rfl, rfl, rfl, ⟨rfl, rfl⟩, veq_d rfl, rfl, ?_, trivial⟩, ⟨⟨rfl, veq0_d rfl, veq0_d rfl, rfl, trivial⟩, ⟨rfl, veq0_d rfl, rfl, trivial⟩, trivial⟩, rfl⟩
    show VEq0 (vi ((k : Int) + 1)) (vi ((k + 1 : Nat) : Int)); rw [Int.natCast_add]; rfl
/-! ### programs -/
def sumF (fs : List Fun) (i : Nat) : Nat := ((fs.take i).map fN).sum
theorem sumF_succ {fs : List Fun} {i : Nat} (h : i < fs.length) : sumF fs (i + 1) = sumF fs i + fN (fs.getD i fun0) := by
  unfold sumF
  rw [List.take_succ_eq_append_getElem h, List.map_append, List.sum_append, List.getD_eq_getElem?_getD, List.getElem?_eq_getElem h]
  simp
theorem sumF_le (fs : List Fun) (i : Nat) : sumF fs i ≤ progN8 fs := by
  have h : progN8 fs = ((fs.take i ++ fs.drop i).map fN).sum := by rw [List.take_append_drop]; rfl
  rw [h, List.map_append, List.sum_append]
  exact Nat.le_add_right _ _
theorem sumF_all (fs : List Fun) : sumF fs fs.length = progN8 fs := by unfold sumF; rw [List.take_length]; rfl
/-- How far functions may be. -/
structure RW (fs : List Fun) where
  i : Nat
  hi : i ≤ fs.length
  ok : ∀ j, j < i → funOK (fs.getD j fun0) = true
  few : sumF fs i ≤ 4096
theorem fN_le {f : Fun} (hf : FitF f) (h : funOK f = true) : fN f ≤ 64 * 1000000000000 := by
  have h64 : f.blocks.length ≤ 64 := by
    unfold funOK at h
    simp only [Bool.and_eq_true, Bool.not_eq_true', Bool.or_eq_false_iff, decide_eq_false_iff_not] at h
    omega
  have := sumC_le (k := bigL) (fun b hb => (hf.blocks b hb).len) f.blocks.length (Nat.le_refl _)
  rw [sumC_all] at this
  unfold bigL at this
  exact Nat.le_trans this (Nat.mul_le_mul_right _ h64)
set_option maxHeartbeats 4000000 in
theorem rightp_spec (p : Prg) (hp : FitP p) : Pure PG 9 [prgV p] (vb (rightP p)) [] := by
  refine Proc.mk (cfg 70) tysOK [] Tryd.func9 rfl (by kernel_rfl) rfl rfl rfl ?_
  intro C x
  obtain ⟨p1, p2, p3, p4⟩ := hp
  unfold bigL at p1 p3
  have ec : (decide (16 < p.arrays.length) || decide (64 < p.funcs.length)) = (decide ((16 : Int) < p.arrays.length) || decide ((64 : Int) < p.funcs.length)) := by
    rw [show decide ((16 : Int) < p.arrays.length) = decide (16 < p.arrays.length) by rw [decide_eq_decide]; omega, show decide ((64 : Int) < p.funcs.length) = decide (64 < p.funcs.length) by rw [decide_eq_decide]; omega]
  refine x.cond rfl trivial (fun h => ?_) (fun h => ?_)
  · have h : (decide ((16 : Int) < p.arrays.length) || decide ((64 : Int) < p.funcs.length)) = true := h
    refine x.exit rfl trivial ?_
    refine ⟨.inr rfl, ?_, trivial, rfl⟩
    show false = rightP p
    unfold rightP
    rw [ec, h]; rfl
  have h : (decide ((16 : Int) < p.arrays.length) || decide ((64 : Int) < p.funcs.length)) = false := h
  obtain ⟨R, hR⟩ : ∃ R, p.arrays.all arrOK = R := ⟨_, rfl⟩
  have hF : rightP p = (R && p.funcs.all funOK && decide (progN8 p.funcs ≤ 4096)) := by unfold rightP; rw [ec, h, hR]; rfl
  have hR2 : allF (fun i => arrOK (p.arrays.getD i arr0)) p.arrays.length 0 = R := by rw [all_allF]; exact hR
  rw [hF]
  have h64 : p.funcs.length ≤ 64 := by
    simp only [Bool.or_eq_false_iff, decide_eq_false_iff_not] at h
    omega
  clear h ec hF
  refine x.loop (α := AW (fun i => arrOK (p.arrays.getD i arr0)) p.arrays.length R) (fun y => ⟨[(1, .ptr 0 0), (21, .d (dArrs p.arrays)), (22, vi p.arrays.length), (23, vi (y.i : Int))], [(0, .box [.d (dArrs p.arrays), .d (dFuns p.funcs)])], 1⟩) (fun y => p.arrays.length - y.i) ⟨0, Nat.zero_le _, hR2⟩ rfl trivial ⟨⟨⟨rfl, rfl⟩, veq_d rfl, rfl, rfl, trivial⟩, ⟨⟨veq0_d rfl, veq0_d rfl, trivial⟩, trivial⟩, rfl⟩ (fun y => ?_)
  obtain ⟨i, hi, same⟩ := y
  change Go C _ ⟨[(1, .ptr 0 0), (21, .d (dArrs p.arrays)), (22, vi p.arrays.length), (23, vi (i : Int))], [(0, .box [.d (dArrs p.arrays), .d (dFuns p.funcs)])], 1⟩ _
  refine x.cond rfl trivial (fun h2 => ?_) (fun h2 => ?_)
  · have h2 : (i : Int) < (p.arrays.length : Int) := of_decide_eq_true h2
    have h2 : i < p.arrays.length := by omega
    have ei : ((i : Int).toNat) = i := Int.toNat_natCast i
    have ha := p2 _ (getD_mem (d := arr0) h2)
    have hfi : ∀ v, arrOK (p.arrays.getD i arr0) = v → (fun i => arrOK (p.arrays.getD i arr0)) i = v := fun v h => h
    obtain ⟨a, hae⟩ : ∃ a, p.arrays.getD i arr0 = a := ⟨_, rfl⟩
    have hae2 : p.arrays.getD ((i : Int).toNat) arr0 = a := by rw [ei]; exact hae
    rw [hae] at ha hfi
    refine x.pure rfl (by simp only [AllP]; omega) rfl (show Pure PG _ [vs (p.arrays.getD ((i : Int).toNat) arr0).name] _ [] from by rw [hae2]; exact pname_spec a.name ha.name) ⟨rfl, trivial⟩ ?_
    rw [hae2]
    refine x.pureG rfl trivial rfl (fun _ => pname_spec a.level ha.level) rfl ⟨rfl, trivial⟩ ?_
    refine x.cond rfl trivial (fun h3 => ?_) (fun h3 => ?_)
    · have h3 : (((!okN a.name || !okN a.level) || decide (a.size < 1)) || decide (256 < a.size)) = true := h3
      have hv : arrOK a = false := by unfold arrOK; rw [h3]; rfl
      refine x.exit rfl trivial ?_
      rw [AW.stop h2 same (hfi _ hv)]
      exact ⟨.inr rfl, rfl, trivial, rfl⟩
    · have h3 : (((!okN a.name || !okN a.level) || decide (a.size < 1)) || decide (256 < a.size)) = false := h3
      have hv : arrOK a = true := by unfold arrOK; rw [h3]; rfl
      refine x.back rfl (by simp only [AllP, inI64]; omega) ⟨⟨i + 1, by omega, AW.step h2 same (hfi _ hv)⟩, by show p.arrays.length - (i + 1) < p.arrays.length - i; omega, ⟨⟨rfl, rfl⟩, veq_d rfl, rfl, ?_, trivial⟩, ⟨⟨veq0_d rfl, veq0_d rfl, trivial⟩, trivial⟩, rfl⟩
      show VEq0 (vi ((i : Int) + 1)) (vi ((i + 1 : Nat) : Int)); rw [Int.natCast_add]; rfl
  have h2 : ¬ (i : Int) < (p.arrays.length : Int) := of_decide_eq_false h2
  have eR := AW.fin (by omega) hi same
  subst eR
  refine x.loop (α := RW p.funcs) (fun y => ⟨[(1, .ptr 0 0), (5, vi (sumF p.funcs y.i)), (49, .d (dFuns p.funcs)), (50, vi p.funcs.length), (51, vi (y.i : Int))], [(0, .box [.d (dArrs p.arrays), .d (dFuns p.funcs)])], 1⟩) (fun y => p.funcs.length - y.i) ⟨0, Nat.zero_le _, fun j hj => by omega, by simp [sumF]⟩ rfl trivial ⟨⟨⟨rfl, rfl⟩, rfl, veq_d rfl, rfl, rfl, trivial⟩, ⟨⟨veq0_d rfl, veq0_d rfl, trivial⟩, trivial⟩, rfl⟩ (fun y => ?_)
  obtain ⟨k, hk, ok, few⟩ := y
  change Go C _ ⟨[(1, .ptr 0 0), (5, vi (sumF p.funcs k)), (49, .d (dFuns p.funcs)), (50, vi p.funcs.length), (51, vi (k : Int))], [(0, .box [.d (dArrs p.arrays), .d (dFuns p.funcs)])], 1⟩ _
  refine x.cond rfl trivial (fun h3 => ?_) (fun h3 => ?_)
  rotate_left
  · have h3 : ¬ (k : Int) < (p.funcs.length : Int) := of_decide_eq_false h3
    obtain rfl : k = p.funcs.length := by omega
    refine x.exit rfl trivial ?_
    have e1 : p.funcs.all funOK = true := by
      rw [← all_allF p.funcs funOK fun0, allF_iff]
      exact fun j _ hj => ok j (by omega)
    rw [sumF_all] at few
    rw [e1, decide_eq_true few]
    exact ⟨.inr rfl, rfl, trivial, rfl⟩
  have h3 : (k : Int) < (p.funcs.length : Int) := of_decide_eq_true h3
  have h3 : k < p.funcs.length := by omega
  have hff := p4 _ (getD_mem (d := fun0) h3)
  have hs := sumF_succ h3
  obtain ⟨f, hfe⟩ : ∃ f, p.funcs.getD k fun0 = f := ⟨_, rfl⟩
  have hfe2 : p.funcs.getD ((k : Int).toNat) fun0 = f := by rw [Int.toNat_natCast]; exact hfe
  rw [hfe] at hff hs
  refine x.pure rfl (by simp only [AllP]; omega) rfl (show Pure PG _ [fnV (p.funcs.getD ((k : Int).toNat) fun0)] _ [] from by rw [hfe2]; exact function_spec f hff) ⟨⟨rfl, veq0_d rfl, veq0_d rfl, rfl, trivial⟩, trivial⟩ ?_
  rw [hfe2]
  have hin : f ∈ p.funcs := by rw [← hfe]; exact getD_mem h3
  cases hok : funOK f with
  | false =>
    have eR : funR f = (0, false) := by unfold funR; rw [hok]; rfl
    have e1 : p.funcs.all funOK = false := by
      rw [Bool.eq_false_iff, Ne, List.all_eq_true]
      intro h; rw [h f hin] at hok; cases hok
    rw [eR, e1]
    refine x.cond rfl (by simp only [AllP, inI64]; omega) (fun h4 => ?_) (fun h4 => ?_)
    · refine x.exit rfl trivial ?_
      exact ⟨.inr rfl, rfl, trivial, rfl⟩
    · have h4 : (!false || _) = false := h4
      simp at h4
  | true =>
    have eR : funR f = ((fN f : Int), true) := by unfold funR; rw [hok]; rfl
    have hN := fN_le hff hok
    rw [eR]
    refine x.cond rfl (by simp only [AllP, inI64]; omega) (fun h4 => ?_) (fun h4 => ?_)
    · have h4 : (!true || decide ((4096 : Int) < (sumF p.funcs k : Int) + (fN f : Int))) = true := h4
      have h4 : (4096 : Int) < (sumF p.funcs k : Int) + (fN f : Int) := by simpa using h4
      have hle := sumF_le p.funcs (k + 1)
      refine x.exit rfl trivial ?_
      rw [decide_eq_false (show ¬ progN8 p.funcs ≤ 4096 by omega), Bool.and_false]
      exact ⟨.inr rfl, rfl, trivial, rfl⟩
    · have h4 : (!true || decide ((4096 : Int) < (sumF p.funcs k : Int) + (fN f : Int))) = false := h4
      have h4 : ¬ (4096 : Int) < (sumF p.funcs k : Int) + (fN f : Int) := by simpa using h4
      refine x.back rfl (by simp only [AllP, inI64]; omega) ⟨⟨k + 1, by omega, fun j hj => ?_, by omega⟩, by show p.funcs.length - (k + 1) < p.funcs.length - k; omega, ⟨⟨rfl, rfl⟩, ?_, veq_d rfl, rfl, ?_, trivial⟩, ⟨⟨veq0_d rfl, veq0_d rfl, trivial⟩, trivial⟩, rfl⟩
      · by_cases e : j = k
        · rw [e, hfe]; exact hok
        · exact ok j (by omega)
      · show VEq0 (vi ((sumF p.funcs k : Int) + (fN f : Int))) (vi (sumF p.funcs (k + 1) : Int))
        rw [hs, Int.natCast_add]; rfl
      · show VEq0 (vi ((k : Int) + 1)) (vi ((k + 1 : Nat) : Int)); rw [Int.natCast_add]; rfl
end Go.Proofs.YteeofakohenpoaaDoor

/- What is written of a program. -/
namespace Go.Proofs.YteeofakohenpoaaDoor
open Go.Sx
set_option linter.unusedVariables false
set_option linter.unusedSimpArgs false
set_option maxRecDepth 100000

/-! ### how long -/
theorem put_size (acc l : ByteArray) : (putP acc l).size = acc.size + (l.size + 1) := by
  unfold putP
  rw [app_size, app_size]
  rfl
theorem textA_size {k : Nat} : ∀ (l : List Arr) (acc : ByteArray), (∀ a, a ∈ l → (arrLine a).size ≤ k) → (textA acc l).size ≤ acc.size + l.length * (k + 1)
  | [], acc, h => by show acc.size ≤ _; omega
  | a :: r, acc, h => by
    have ih := textA_size r (putP acc (arrLine a)) fun b hb => h b (List.mem_cons_of_mem _ hb)
    have ha := h a (by simp)
    rw [put_size] at ih
    rw [List.length_cons, Nat.succ_mul]
    show (textA (putP acc (arrLine a)) r).size ≤ _
    omega
theorem textC_size {k : Nat} : ∀ (l : List Ins) (acc : ByteArray), (∀ a, a ∈ l → (insLine a).size ≤ k) → (textC acc l).size ≤ acc.size + l.length * (k + 1)
  | [], acc, h => by show acc.size ≤ _; omega
  | a :: r, acc, h => by
    have ih := textC_size r (putP acc (insLine a)) fun b hb => h b (List.mem_cons_of_mem _ hb)
    have ha := h a (by simp)
    rw [put_size] at ih
    rw [List.length_cons, Nat.succ_mul]
    show (textC (putP acc (insLine a)) r).size ≤ _
    omega
theorem textB_size {k : Nat} : ∀ (l : List Blk) (acc : ByteArray), (∀ b, b ∈ l → ∀ acc : ByteArray, (textC (putP acc (blkLine b)) b.code).size ≤ acc.size + k) → (textB acc l).size ≤ acc.size + l.length * k
  | [], acc, h => by show acc.size ≤ _; omega
  | a :: r, acc, h => by
    have ih := textB_size r (textC (putP acc (blkLine a)) a.code) fun b hb => h b (List.mem_cons_of_mem _ hb)
    have ha := h a (by simp) acc
    rw [List.length_cons, Nat.succ_mul]
    show (textB (textC (putP acc (blkLine a)) a.code) r).size ≤ _
    omega
theorem textF_size {k : Nat} : ∀ (l : List Fun) (acc : ByteArray), (∀ f, f ∈ l → ∀ acc : ByteArray, (putP (textB (putP acc (fnLine f)) f.blocks) ⟨#[125]⟩).size ≤ acc.size + k) → (textF acc l).size ≤ acc.size + l.length * k
  | [], acc, h => by show acc.size ≤ _; omega
  | a :: r, acc, h => by
    have ih := textF_size r (putP (textB (putP acc (fnLine a)) a.blocks) ⟨#[125]⟩) fun b hb => h b (List.mem_cons_of_mem _ hb)
    have ha := h a (by simp) acc
    rw [List.length_cons, Nat.succ_mul]
    show (textF (putP (textB (putP acc (fnLine a)) a.blocks) ⟨#[125]⟩) r).size ≤ _
    omega
/-- The numbers that instructions hold are numbers. -/
structure NumB (b : Blk) : Prop where
  code : ∀ x, x ∈ b.code → inI64 x.num
theorem arrLine_size {a : Arr} (h : arrOK a = true) : (arrLine a).size ≤ 300 := by
  unfold arrOK at h
  simp only [Bool.not_eq_true', Bool.or_eq_false_iff, decide_eq_false_iff_not, Bool.not_eq_false'] at h
  obtain ⟨⟨⟨h1, h2⟩, h3⟩, h4⟩ := h
  have s1 := okN_size h1
  have s2 := okN_size h2
  have s3 := show_size (n := a.size) (by unfold inI64; omega)
  unfold arrLine
  rw [join4, app_size, app_size, app_size, app_size, app_size, app_size]
  show 5 + (1 + (_ + (1 + (_ + (1 + _))))) ≤ _
  omega
theorem insLine_size {x : Ins} (h : rightI x = true) (hn : inI64 x.num) : (insLine x).size ≤ 14002 := by
  have := line_size (right_small h) hn
  unfold insLine
  rw [app_size]
  show 2 + _ ≤ _
  omega
theorem blkLine_size {b : Blk} (h : okN b.name = true) : (blkLine b).size ≤ 97 := by
  have := okN_size h
  unfold blkLine
  rw [app_size]
  show _ + 1 ≤ _
  omega
theorem fnLine_size {f : Fun} (h : okN f.name = true) (hp : allN f.params = true) (h6 : f.params.length ≤ 6) : (fnLine f).size ≤ 1000 := by
  have s1 := okN_size h
  have s2 := joinB_size commaS 96 f.params (allN_size hp)
  have s3 : (joinB f.params commaS).size ≤ 6 * 98 := Nat.le_trans s2 (Nat.mul_le_mul_right _ h6)
  unfold fnLine
  rw [app_size, app_size, app_size, app_size]
  show 3 + _ + 1 + _ + 3 ≤ _
  omega
structure BlkR (b : Blk) : Prop where
  name : okN b.name = true
  code : ∀ x, x ∈ b.code → rightI x = true
  few : b.code.length ≤ 4096
structure FunR (f : Fun) : Prop where
  name : okN f.name = true
  params : allN f.params = true
  plen : f.params.length ≤ 6
  blen : f.blocks.length ≤ 64
  blocks : ∀ b, b ∈ f.blocks → BlkR b
structure PrgR (p : Prg) : Prop where
  alen : p.arrays.length ≤ 16
  flen : p.funcs.length ≤ 64
  arrays : ∀ a, a ∈ p.arrays → arrOK a = true
  funcs : ∀ f, f ∈ p.funcs → FunR f
theorem right_prg {p : Prg} (h : rightP p = true) : PrgR p := by
  unfold rightP at h
  simp only [Bool.and_eq_true, Bool.not_eq_true', Bool.or_eq_false_iff, decide_eq_false_iff_not, decide_eq_true_eq, List.all_eq_true] at h
  obtain ⟨⟨⟨⟨h1, h2⟩, h3⟩, h4⟩, h5⟩ := h
  refine ⟨by omega, by omega, h3, fun f hf => ?_⟩
  have hk := h4 f hf
  unfold funOK at hk
  simp only [Bool.and_eq_true, Bool.not_eq_true', Bool.or_eq_false_iff, decide_eq_false_iff_not, Bool.not_eq_false', List.all_eq_true] at hk
  obtain ⟨⟨⟨⟨⟨k1, k2⟩, k3⟩, k4⟩, k5⟩, k6⟩ := hk
  refine ⟨k1, k2, by omega, by omega, fun b hb => ?_⟩
  have hq := k6 b hb
  unfold blkOK at hq
  simp only [Bool.and_eq_true, List.all_eq_true] at hq
  refine ⟨hq.1, hq.2, ?_⟩
  have s1 : b.code.length ≤ fN f := sum_mem (List.mem_map.2 ⟨b, hb, rfl⟩)
  have s2 : fN f ≤ progN8 p.funcs := sum_mem (l := p.funcs.map fN) (List.mem_map.2 ⟨f, hf, rfl⟩)
  omega
theorem blk_size {b : Blk} (h : BlkR b) (hn : ∀ x, x ∈ b.code → inI64 x.num) (k : Nat) (acc : ByteArray) : (textC (putP acc (blkLine b)) (b.code.take k)).size ≤ acc.size + 58000000 := by
  have h1 := textC_size (k := 14002) (b.code.take k) (putP acc (blkLine b)) fun x hx => insLine_size (h.code x (List.mem_of_mem_take hx)) (hn x (List.mem_of_mem_take hx))
  have h2 : (b.code.take k).length ≤ 4096 := by rw [List.length_take]; have := h.few; omega
  have h3 : (b.code.take k).length * (14002 + 1) ≤ 4096 * 14003 := Nat.mul_le_mul_right _ h2
  have h4 := blkLine_size h.name
  rw [put_size] at h1
  omega
theorem blks_size {f : Fun} (h : FunR f) (hn : ∀ b, b ∈ f.blocks → ∀ x, x ∈ b.code → inI64 x.num) (k : Nat) (acc : ByteArray) : (textB acc (f.blocks.take k)).size ≤ acc.size + 3712000000 := by
  have h1 := textB_size (k := 58000000) (f.blocks.take k) acc fun b hb acc => by
    have := blk_size (h.blocks b (List.mem_of_mem_take hb)) (hn b (List.mem_of_mem_take hb)) b.code.length acc
    rwa [List.take_length] at this
  have h2 : (f.blocks.take k).length ≤ 64 := by rw [List.length_take]; have := h.blen; omega
  have h3 : (f.blocks.take k).length * 58000000 ≤ 64 * 58000000 := Nat.mul_le_mul_right _ h2
  omega
theorem fun_size {f : Fun} (h : FunR f) (hn : ∀ b, b ∈ f.blocks → ∀ x, x ∈ b.code → inI64 x.num) (k : Nat) (acc : ByteArray) : (textB (putP acc (fnLine f)) (f.blocks.take k)).size ≤ acc.size + 3712002000 := by
  have h1 := blks_size h hn k (putP acc (fnLine f))
  have h2 := fnLine_size h.name h.params h.plen
  rw [put_size] at h1
  omega
theorem funs_size {p : Prg} (h : PrgR p) (hn : ∀ f, f ∈ p.funcs → ∀ b, b ∈ f.blocks → ∀ x, x ∈ b.code → inI64 x.num) (k : Nat) (acc : ByteArray) : (textF acc (p.funcs.take k)).size ≤ acc.size + 237568256000 := by
  have h1 := textF_size (k := 3712004000) (p.funcs.take k) acc fun f hf acc => by
    have := fun_size (h.funcs f (List.mem_of_mem_take hf)) (hn f (List.mem_of_mem_take hf)) f.blocks.length acc
    rw [List.take_length] at this
    rw [put_size]
    show _ + (1 + 1) ≤ _
    omega
  have h2 : (p.funcs.take k).length ≤ 64 := by rw [List.length_take]; have := h.flen; omega
  have h3 : (p.funcs.take k).length * 3712004000 ≤ 64 * 3712004000 := Nat.mul_le_mul_right _ h2
  omega
theorem arrs_size {p : Prg} (h : PrgR p) (k : Nat) : (textA .empty (p.arrays.take k)).size ≤ 5000 := by
  have h1 := textA_size (k := 300) (p.arrays.take k) .empty fun a ha => arrLine_size (h.arrays a (List.mem_of_mem_take ha))
  have h2 : (p.arrays.take k).length ≤ 16 := by rw [List.length_take]; have := h.alen; omega
  have h3 : (p.arrays.take k).length * (300 + 1) ≤ 16 * 301 := Nat.mul_le_mul_right _ h2
  have h4 : ByteArray.empty.size = 0 := rfl
  omega
theorem szfn : (⟨#[102, 110, 32]⟩ : ByteArray).size = 3 := rfl
theorem szbr : (⟨#[41, 32, 123]⟩ : ByteArray).size = 3 := rfl
theorem sz58b : (⟨#[58]⟩ : ByteArray).size = 1 := rfl
theorem sz3232 : (⟨#[32, 32]⟩ : ByteArray).size = 2 := rfl
/-! ### the walk -/
abbrev bldT : TypeId := 66
abbrev u8T : TypeId := 5
theorem write_spec (l s : ByteArray) (h : l.size + s.size ≤ okL) : Proc PG 21 1 [.ptr 0 0, vs s] [.bld bldT (.own 1), bytesC u8T l] (.tup [vi s.size, .d .ni]) [.bld bldT (.own 1), bytesC u8T (l ++ s)] :=
  Proc.ofWrite (P := PG) (r := Tryd.lays156_ren) { Tryd.lays156 with } Tryd.Builder_Extra_156 (callable_of Tryd.func21 (by kernel_rfl) (by kernel_rfl)) l s h
theorem string_spec (l : ByteArray) : Proc PG 27 1 [.ptr 0 0] [.bld bldT (.own 1), bytesC u8T l] (vs l) [.box [.dead, .dead], .vec u8T 1 0 fun _ => []] :=
  Proc.ofString (P := PG) Tryd.lays169 Tryd.Builder_Extra_169 (callable_of Tryd.func27 (by kernel_rfl) (by kernel_rfl)) l
theorem len_spec (l : ByteArray) : Proc PG 26 1 [.ptr 0 0] [.bld bldT (.own 1), bytesC u8T l] (vi l.size) [.bld bldT (.own 1), bytesC u8T l] :=
  Proc.ofLen (P := PG) Tryd.lays170 ⟨⟨Tryd.Builder_Extra_156.sizeBuilder, Tryd.Builder_Extra_156.liesBuilder⟩, Tryd.Builder_Extra_156.t5, Tryd.Builder_Extra_156.a5, Tryd.Builder_Extra_156.z5, Tryd.Builder_Extra_156.v5, Tryd.Builder_Extra_156.infoByte, Tryd.Builder_Extra_156.cellsByte, Tryd.Builder_Extra_156.sizeByte, Tryd.Builder_Extra_156.neB5⟩ (callable_of Tryd.func26 (by kernel_rfl) (by kernel_rfl)) l
theorem put_spec (l s : ByteArray) (h : l.size + (s.size + 1) ≤ okL) : Proc PG 20 1 [vs s, .ptr 0 0] [.bld bldT (.own 1), bytesC u8T l] (.tup []) [.bld bldT (.own 1), bytesC u8T (putP l s)] := by
  refine Proc.mk (cfgF 6 1) tysOK [0, 1] Tryd.func20 rfl (by kernel_rfl) rfl rfl rfl ?_
  intro C x
  unfold okL at h
  refine x.call [0, 1] rfl (by simp only [AllP]; show ((s.size + 1 : Nat) : Int) ≤ _; omega) rfl (write_spec l (s ++ (⟨#[10]⟩ : ByteArray)) (by rw [app_size]; exact h)) rfl ⟨⟨rfl, rfl⟩, rfl, trivial⟩ ⟨⟨rfl, rfl⟩, ⟨rfl, rfl, rfl, fun _ _ => rfl⟩, trivial⟩ ?_
  refine x.exit rfl trivial ?_
  exact ⟨.inl rfl, trivial, ⟨⟨rfl, rfl⟩, ⟨rfl, rfl, rfl, fun _ _ => rfl⟩, trivial⟩, rfl⟩
/-- How far. -/
structure IW (n : Nat) where
  i : Nat
  hi : i ≤ n
theorem ba_eqC {T : TypeId} {a b : ByteArray} (h : a = b) : ChEq (bytesC T a) (bytesC T b) := by subst h; exact ⟨rfl, rfl, rfl, fun _ _ => rfl⟩
theorem textC_succ {l : List Ins} {i : Nat} (h : i < l.length) (acc : ByteArray) : putP (textC acc (l.take i)) (insLine (l.getD i (ins0 0))) = textC acc (l.take (i + 1)) := (fold_take (fun acc x => putP acc (insLine x)) acc h (ins0 0)).symm
theorem textB_succ {l : List Blk} {i : Nat} (h : i < l.length) (acc : ByteArray) : textC (putP (textB acc (l.take i)) (blkLine (l.getD i blk0))) (l.getD i blk0).code = textB acc (l.take (i + 1)) := (fold_take (fun acc b => textC (putP acc (blkLine b)) b.code) acc h blk0).symm
theorem textA_succ {l : List Arr} {i : Nat} (h : i < l.length) (acc : ByteArray) : putP (textA acc (l.take i)) (arrLine (l.getD i arr0)) = textA acc (l.take (i + 1)) := (fold_take (fun acc a => putP acc (arrLine a)) acc h arr0).symm
theorem textF_succ {l : List Fun} {i : Nat} (h : i < l.length) (acc : ByteArray) : putP (textB (putP (textF acc (l.take i)) (fnLine (l.getD i fun0))) (l.getD i fun0).blocks) ⟨#[125]⟩ = textF acc (l.take (i + 1)) := (fold_take (fun acc f => putP (textB (putP acc (fnLine f)) f.blocks) ⟨#[125]⟩) acc h fun0).symm
set_option maxHeartbeats 8000000 in
theorem print_spec (p : Prg) (hp : FitP p) : Pure PG 8 [prgV p] (.tup [vs (printP p).1, vi (printP p).2]) [] := by
  refine Proc.mk (cfg 87) tysOK [] Tryd.func8 rfl (by kernel_rfl) rfl rfl rfl ?_
  intro C x
  refine x.pure rfl trivial rfl (rightp_spec p hp) ⟨⟨veq0_d rfl, veq0_d rfl, trivial⟩, trivial⟩ ?_
  refine x.cond rfl trivial (fun h => ?_) (fun h => ?_)
  · have h : (!rightP p) = true := h
    refine x.exit rfl trivial ?_
    unfold printP
    rw [if_neg (by simpa using h)]
    exact ⟨.inr rfl, ⟨rfl, rfl, trivial⟩, trivial, rfl⟩
  have h : (!rightP p) = false := h
  have hr : rightP p = true := by simpa using h
  have hR := right_prg hr
  have hnum : ∀ f, f ∈ p.funcs → ∀ b, b ∈ f.blocks → ∀ x, x ∈ b.code → inI64 x.num := fun f hf b hb x hx => (((hp.funcs f hf).blocks b hb).code x hx).num
  have ha16 := hR.alen
  have hf64 := hR.flen
  unfold printP
  rw [if_pos hr]
  clear h
  refine x.toLoop rfl trivial ?_
  refine Go.ownBld 1 u8T bldT 1 (fun i => [.int .u8 (sb .empty i)]) rfl ?_
  refine x.loop (α := IW p.arrays.length) (fun y => ⟨[(1, .ptr 0 0), (4, .ptr 1 0), (5, .fn 20 [.ptr 1 0]), (19, .d (dArrs p.arrays)), (20, vi p.arrays.length), (21, vi (y.i : Int))], [(0, .box [.d (dArrs p.arrays), .d (dFuns p.funcs)]), (1, .bld bldT (.own 2)), (2, bytesC u8T (textA .empty (p.arrays.take y.i)))], 3⟩) (fun y => p.arrays.length - y.i) ⟨0, Nat.zero_le _⟩ rfl trivial ⟨⟨⟨rfl, rfl⟩, ⟨rfl, rfl⟩, rfl, veq_d rfl, rfl, rfl, trivial⟩, ⟨⟨veq0_d rfl, veq0_d rfl, trivial⟩, ⟨rfl, rfl⟩, ⟨rfl, rfl, rfl, fun _ _ => rfl⟩, trivial⟩, rfl⟩ (fun y => ?_)
  obtain ⟨i, hi⟩ := y
  change Go C _ ⟨[(1, .ptr 0 0), (4, .ptr 1 0), (5, .fn 20 [.ptr 1 0]), (19, .d (dArrs p.arrays)), (20, vi p.arrays.length), (21, vi (i : Int))], [(0, .box [.d (dArrs p.arrays), .d (dFuns p.funcs)]), (1, .bld bldT (.own 2)), (2, bytesC u8T (textA .empty (p.arrays.take i)))], 3⟩ _
  refine x.cond rfl trivial (fun h2 => ?_) (fun h2 => ?_)
  · have h2 : (i : Int) < (p.arrays.length : Int) := of_decide_eq_true h2
    have h2 : i < p.arrays.length := by omega
    have ei : ((i : Int).toNat) = i := Int.toNat_natCast i
    have hin := hp.arrays _ (getD_mem (d := arr0) h2)
    have hok := hR.arrays _ (getD_mem (d := arr0) h2)
    have hsz := arrs_size hR i
    have hsuc := textA_succ h2 .empty
    obtain ⟨a, hae⟩ : ∃ a, p.arrays.getD i arr0 = a := ⟨_, rfl⟩
    have hae2 : p.arrays.getD ((i : Int).toNat) arr0 = a := by rw [ei]; exact hae
    rw [hae] at hin hok hsuc
    have hls := arrLine_size hok
    refine x.draw [] [0] [1, 2, 3, 4, 6, 7] [5] [8, 9, 10] rfl (by simp only [AllP]; omega) mixedP (by kernel_rfl) Ret.noPanic.quiet rfl trivial (fun C1 x1 => ?_)
    rw [hae2]
    refine x1.pure rfl trivial rfl (show_spec a.size hin.size) ⟨rfl, trivial⟩ ?_
    refine x1.back rfl trivial ?_
    refine x.op rfl trivial ?_
    refine Sx.Go.freeze 4 ?_
    refine x.pure rfl trivial rfl (words_spec [⟨#[97, 114, 114, 97, 121]⟩, a.name, showV a.size, a.level] (Nat.le_of_ble_eq_true rfl) (show (arrLine a).size ≤ _ by unfold okL; omega)) ⟨⟨rfl, fun _ => rfl, ev4 rfl rfl rfl rfl⟩, trivial⟩ ?_
    refine x.call [1, 2] rfl trivial rfl (put_spec (textA .empty (p.arrays.take i)) (arrLine a) (by unfold okL; omega)) rfl ⟨rfl, ⟨rfl, rfl⟩, trivial⟩ ⟨⟨rfl, rfl⟩, ⟨rfl, rfl, rfl, fun _ _ => rfl⟩, trivial⟩ ?_
    refine x.back rfl (by simp only [AllP, inI64]; omega) ⟨⟨i + 1, by omega⟩, by show p.arrays.length - (i + 1) < p.arrays.length - i; omega, ⟨⟨rfl, rfl⟩, ⟨rfl, rfl⟩, rfl, veq_d rfl, rfl, ?_, trivial⟩, ⟨⟨veq0_d rfl, veq0_d rfl, trivial⟩, ⟨rfl, rfl⟩, ?_, trivial⟩, rfl⟩
    · show VEq0 (vi ((i : Int) + 1)) (vi ((i + 1 : Nat) : Int)); rw [Int.natCast_add]; rfl
    · exact ba_eqC hsuc
  have h2 : ¬ (i : Int) < (p.arrays.length : Int) := of_decide_eq_false h2
  obtain rfl : i = p.arrays.length := by omega
  rw [List.take_length]
  have hA : (textA .empty p.arrays).size ≤ 5000 := by have := arrs_size hR p.arrays.length; rwa [List.take_length] at this
  refine x.loop (α := IW p.funcs.length) (fun y => ⟨[(1, .ptr 0 0), (4, .ptr 1 0), (5, .fn 20 [.ptr 1 0]), (38, .d (dFuns p.funcs)), (39, vi p.funcs.length), (40, vi (y.i : Int))], [(0, .box [.d (dArrs p.arrays), .d (dFuns p.funcs)]), (1, .bld bldT (.own 2)), (2, bytesC u8T (textF (textA .empty p.arrays) (p.funcs.take y.i)))], 3⟩) (fun y => p.funcs.length - y.i) ⟨0, Nat.zero_le _⟩ rfl trivial ⟨⟨⟨rfl, rfl⟩, ⟨rfl, rfl⟩, rfl, veq_d rfl, rfl, rfl, trivial⟩, ⟨⟨veq0_d rfl, veq0_d rfl, trivial⟩, ⟨rfl, rfl⟩, ⟨rfl, rfl, rfl, fun _ _ => rfl⟩, trivial⟩, rfl⟩ (fun y => ?_)
  obtain ⟨i, hi⟩ := y
  change Go C _ ⟨[(1, .ptr 0 0), (4, .ptr 1 0), (5, .fn 20 [.ptr 1 0]), (38, .d (dFuns p.funcs)), (39, vi p.funcs.length), (40, vi (i : Int))], [(0, .box [.d (dArrs p.arrays), .d (dFuns p.funcs)]), (1, .bld bldT (.own 2)), (2, bytesC u8T (textF (textA .empty p.arrays) (p.funcs.take i)))], 3⟩ _
  have hsz := funs_size hR hnum i (textA .empty p.arrays)
  refine x.cond rfl trivial (fun h2 => ?_) (fun h2 => ?_)
  rotate_left
  · have h2 : ¬ (i : Int) < (p.funcs.length : Int) := of_decide_eq_false h2
    obtain rfl : i = p.funcs.length := by omega
    rw [List.take_length]
    refine x.call [1, 2] rfl trivial rfl (len_spec (textF (textA .empty p.arrays) p.funcs)) rfl ⟨⟨rfl, rfl⟩, trivial⟩ ⟨⟨rfl, rfl⟩, ⟨rfl, rfl, rfl, fun _ _ => rfl⟩, trivial⟩ ?_
    refine x.cond rfl trivial (fun h3 => ?_) (fun h3 => ?_)
    · have h3 : (65536 : Int) < ((textP p).size : Int) := of_decide_eq_true h3
      rw [if_pos (by omega)]
      refine x.exit rfl trivial ?_
      exact ⟨.inr rfl, ⟨rfl, rfl, trivial⟩, trivial, rfl⟩
    · have h3 : ¬ (65536 : Int) < ((textP p).size : Int) := of_decide_eq_false h3
      rw [if_neg (by omega)]
      refine x.call [1, 2] rfl trivial rfl (string_spec (textF (textA .empty p.arrays) p.funcs)) rfl ⟨⟨rfl, rfl⟩, trivial⟩ ⟨⟨rfl, rfl⟩, ⟨rfl, rfl, rfl, fun _ _ => rfl⟩, trivial⟩ ?_
      refine x.exit rfl trivial ?_
      exact ⟨.inr rfl, ⟨rfl, rfl, trivial⟩, trivial, rfl⟩
  have h2 : (i : Int) < (p.funcs.length : Int) := of_decide_eq_true h2
  have h2 : i < p.funcs.length := by omega
  have ei : ((i : Int).toNat) = i := Int.toNat_natCast i
  have hin := hp.funcs _ (getD_mem (d := fun0) h2)
  have hok := hR.funcs _ (getD_mem (d := fun0) h2)
  have hnf := hnum _ (getD_mem (d := fun0) h2)
  have hsuc := textF_succ h2 (textA .empty p.arrays)
  obtain ⟨f, hfe⟩ : ∃ f, p.funcs.getD i fun0 = f := ⟨_, rfl⟩
  have hfe2 : p.funcs.getD ((i : Int).toNat) fun0 = f := by rw [ei]; exact hfe
  rw [hfe] at hin hok hnf hsuc
  have hls := fnLine_size hok.name hok.params hok.plen
  have hnz := okN_size hok.name
  have hjz := joinB_size commaS 96 f.params (allN_size hok.params)
  have hjz2 : (joinB f.params commaS).size ≤ 6 * 98 := Nat.le_trans hjz (Nat.mul_le_mul_right _ hok.plen)
  have hpl := hok.plen
  have hbl := hok.blen
  obtain ⟨acc, hacc⟩ : ∃ acc, textF (textA .empty p.arrays) (p.funcs.take i) = acc := ⟨_, rfl⟩
  rw [hacc] at hsz hsuc ⊢
  refine x.draw [] [0] [1, 2, 3, 4, 5, 6] [7] [8, 9, 10] rfl (by simp only [AllP]; omega) mixedP (by kernel_rfl) Ret.noPanic.quiet rfl (by rw [hfe2]; simp only [AllP, app_size, szfn, sz40]; omega) (fun C1 x1 => ?_)
  rw [hfe2]
  refine x1.pure rfl trivial rfl (join_spec f.params commaS (by unfold okL; omega) (by unfold okL; omega)) ⟨veq_d rfl, rfl, trivial⟩ ?_
  refine x1.back rfl trivial ?_
  refine x.call [1, 2] rfl (by simp only [AllP, app_size, szfn, sz40, szbr]; omega) rfl (put_spec acc (fnLine f) (by unfold okL; omega)) rfl ⟨rfl, ⟨rfl, rfl⟩, trivial⟩ ⟨⟨rfl, rfl⟩, ⟨rfl, rfl, rfl, fun _ _ => rfl⟩, trivial⟩ ?_
  refine x.loop (α := IW f.blocks.length) (fun y => ⟨[(1, .ptr 0 0), (4, .ptr 1 0), (5, .fn 20 [.ptr 1 0]), (38, .d (dFuns p.funcs)), (39, vi p.funcs.length), (40, vi (i : Int)), (9, .ptr 3 0), (56, .d (dBlks f.blocks)), (57, vi f.blocks.length), (58, vi (y.i : Int))], [(0, .box [.d (dArrs p.arrays), .d (dFuns p.funcs)]), (1, .bld bldT (.own 2)), (2, bytesC u8T (textB (putP acc (fnLine f)) (f.blocks.take y.i))), (3, .box [vs f.name, .d (dStrs f.params), .d (dBlks f.blocks), vi f.at_])], 4⟩) (fun y => f.blocks.length - y.i) ⟨0, Nat.zero_le _⟩ rfl trivial ⟨⟨⟨rfl, rfl⟩, ⟨rfl, rfl⟩, rfl, veq_d rfl, rfl, rfl, ⟨rfl, rfl⟩, veq_d rfl, rfl, rfl, trivial⟩, ⟨⟨veq0_d rfl, veq0_d rfl, trivial⟩, ⟨rfl, rfl⟩, ⟨rfl, rfl, rfl, fun _ _ => rfl⟩, ⟨rfl, veq0_d rfl, veq0_d rfl, rfl, trivial⟩, trivial⟩, rfl⟩ (fun y => ?_)
  obtain ⟨k, hk⟩ := y
  change Go C _ ⟨[(1, .ptr 0 0), (4, .ptr 1 0), (5, .fn 20 [.ptr 1 0]), (38, .d (dFuns p.funcs)), (39, vi p.funcs.length), (40, vi (i : Int)), (9, .ptr 3 0), (56, .d (dBlks f.blocks)), (57, vi f.blocks.length), (58, vi (k : Int))], [(0, .box [.d (dArrs p.arrays), .d (dFuns p.funcs)]), (1, .bld bldT (.own 2)), (2, bytesC u8T (textB (putP acc (fnLine f)) (f.blocks.take k))), (3, .box [vs f.name, .d (dStrs f.params), .d (dBlks f.blocks), vi f.at_])], 4⟩ _
  have hsz2 := fun_size hok hnf k acc
  refine x.cond rfl trivial (fun h4 => ?_) (fun h4 => ?_)
  rotate_left
  · have h4 : ¬ (k : Int) < (f.blocks.length : Int) := of_decide_eq_false h4
    obtain rfl : k = f.blocks.length := by omega
    rw [List.take_length] at hsz2 ⊢
    refine x.call [1, 2] rfl trivial rfl (put_spec (textB (putP acc (fnLine f)) f.blocks) ⟨#[125]⟩ (by unfold okL; show _ + (1 + 1) ≤ _; omega)) rfl ⟨rfl, ⟨rfl, rfl⟩, trivial⟩ ⟨⟨rfl, rfl⟩, ⟨rfl, rfl, rfl, fun _ _ => rfl⟩, trivial⟩ ?_
    refine x.back rfl (by simp only [AllP, inI64]; omega) ⟨⟨i + 1, by omega⟩, by show p.funcs.length - (i + 1) < p.funcs.length - i; omega, ⟨⟨rfl, rfl⟩, ⟨rfl, rfl⟩, rfl, veq_d rfl, rfl, ?_, trivial⟩, ⟨⟨veq0_d rfl, veq0_d rfl, trivial⟩, ⟨rfl, rfl⟩, ?_, trivial⟩, rfl⟩
    · show VEq0 (vi ((i : Int) + 1)) (vi ((i + 1 : Nat) : Int)); rw [Int.natCast_add]; rfl
    · exact ba_eqC hsuc
  have h4 : (k : Int) < (f.blocks.length : Int) := of_decide_eq_true h4
  have h4 : k < f.blocks.length := by omega
  have ek : ((k : Int).toNat) = k := Int.toNat_natCast k
  have hin2 := hin.blocks _ (getD_mem (d := blk0) h4)
  have hok2 := hok.blocks _ (getD_mem (d := blk0) h4)
  have hnb := hnf _ (getD_mem (d := blk0) h4)
  have hsuc2 := textB_succ h4 (putP acc (fnLine f))
  obtain ⟨b, hbe⟩ : ∃ b, f.blocks.getD k blk0 = b := ⟨_, rfl⟩
  have hbe2 : f.blocks.getD ((k : Int).toNat) blk0 = b := by rw [ek]; exact hbe
  rw [hbe] at hin2 hok2 hnb hsuc2
  have hls2 := blkLine_size hok2.name
  have hnz2 := okN_size hok2.name
  have hfew := hok2.few
  obtain ⟨acc2, hacc2⟩ : ∃ acc2, textB (putP acc (fnLine f)) (f.blocks.take k) = acc2 := ⟨_, rfl⟩
  rw [hacc2] at hsz2 hsuc2 ⊢
  refine x.call [1, 2] rfl (by rw [hbe2]; simp only [AllP, sz58b]; omega) rfl (show Proc PG _ 1 [vs ((f.blocks.getD ((k : Int).toNat) blk0).name ++ (⟨#[58]⟩ : ByteArray)), .ptr 0 0] [.bld bldT (.own 1), bytesC u8T acc2] (.tup []) [.bld bldT (.own 1), bytesC u8T (putP acc2 (blkLine b))] from by rw [hbe2]; exact put_spec acc2 (blkLine b) (by unfold okL; omega)) rfl ⟨rfl, ⟨rfl, rfl⟩, trivial⟩ ⟨⟨rfl, rfl⟩, ⟨rfl, rfl, rfl, fun _ _ => rfl⟩, trivial⟩ ?_
  rw [hbe2]
  refine x.loop (α := IW b.code.length) (fun y => ⟨[(1, .ptr 0 0), (4, .ptr 1 0), (5, .fn 20 [.ptr 1 0]), (38, .d (dFuns p.funcs)), (39, vi p.funcs.length), (40, vi (i : Int)), (9, .ptr 3 0), (56, .d (dBlks f.blocks)), (57, vi f.blocks.length), (58, vi (k : Int)), (11, .ptr 4 0), (68, .d (dCode b.code)), (69, vi b.code.length), (70, vi (y.i : Int))], [(0, .box [.d (dArrs p.arrays), .d (dFuns p.funcs)]), (1, .bld bldT (.own 2)), (2, bytesC u8T (textC (putP acc2 (blkLine b)) (b.code.take y.i))), (3, .box [vs f.name, .d (dStrs f.params), .d (dBlks f.blocks), vi f.at_]), (4, .box [vs b.name, .d (dCode b.code), vi b.at_])], 5⟩) (fun y => b.code.length - y.i) ⟨0, Nat.zero_le _⟩ rfl trivial ⟨⟨⟨rfl, rfl⟩, ⟨rfl, rfl⟩, rfl, veq_d rfl, rfl, rfl, ⟨rfl, rfl⟩, veq_d rfl, rfl, rfl, ⟨rfl, rfl⟩, veq_d rfl, rfl, rfl, trivial⟩, ⟨⟨veq0_d rfl, veq0_d rfl, trivial⟩, ⟨rfl, rfl⟩, ⟨rfl, rfl, rfl, fun _ _ => rfl⟩, ⟨rfl, veq0_d rfl, veq0_d rfl, rfl, trivial⟩, ⟨rfl, veq0_d rfl, rfl, trivial⟩, trivial⟩, rfl⟩ (fun y => ?_)
  obtain ⟨j, hj⟩ := y
  change Go C _ ⟨[(1, .ptr 0 0), (4, .ptr 1 0), (5, .fn 20 [.ptr 1 0]), (38, .d (dFuns p.funcs)), (39, vi p.funcs.length), (40, vi (i : Int)), (9, .ptr 3 0), (56, .d (dBlks f.blocks)), (57, vi f.blocks.length), (58, vi (k : Int)), (11, .ptr 4 0), (68, .d (dCode b.code)), (69, vi b.code.length), (70, vi (j : Int))], [(0, .box [.d (dArrs p.arrays), .d (dFuns p.funcs)]), (1, .bld bldT (.own 2)), (2, bytesC u8T (textC (putP acc2 (blkLine b)) (b.code.take j))), (3, .box [vs f.name, .d (dStrs f.params), .d (dBlks f.blocks), vi f.at_]), (4, .box [vs b.name, .d (dCode b.code), vi b.at_])], 5⟩ _
  have hsz3 := blk_size hok2 hnb j acc2
  refine x.cond rfl trivial (fun h6 => ?_) (fun h6 => ?_)
  rotate_left
  · have h6 : ¬ (j : Int) < (b.code.length : Int) := of_decide_eq_false h6
    obtain rfl : j = b.code.length := by omega
    rw [List.take_length]
    refine x.back rfl (by simp only [AllP, inI64]; omega) ⟨⟨k + 1, by omega⟩, by show f.blocks.length - (k + 1) < f.blocks.length - k; omega, ⟨⟨rfl, rfl⟩, ⟨rfl, rfl⟩, rfl, veq_d rfl, rfl, rfl, ⟨rfl, rfl⟩, veq_d rfl, rfl, ?_, trivial⟩, ⟨⟨veq0_d rfl, veq0_d rfl, trivial⟩, ⟨rfl, rfl⟩, ?_, ⟨rfl, veq0_d rfl, veq0_d rfl, rfl, trivial⟩, trivial⟩, rfl⟩
    · show VEq0 (vi ((k : Int) + 1)) (vi ((k + 1 : Nat) : Int)); rw [Int.natCast_add]; rfl
    · exact ba_eqC hsuc2
  have h6 : (j : Int) < (b.code.length : Int) := of_decide_eq_true h6
  have h6 : j < b.code.length := by omega
  have ej : ((j : Int).toNat) = j := Int.toNat_natCast j
  have hin3 := hin2.code _ (getD_mem (d := ins0 0) h6)
  have hok3 := hok2.code _ (getD_mem (d := ins0 0) h6)
  have hni := hnb _ (getD_mem (d := ins0 0) h6)
  have hsuc3 := textC_succ h6 (putP acc2 (blkLine b))
  obtain ⟨q, hqe⟩ : ∃ q, b.code.getD j (ins0 0) = q := ⟨_, rfl⟩
  have hqe2 : b.code.getD ((j : Int).toNat) (ins0 0) = q := by rw [ej]; exact hqe
  rw [hqe] at hin3 hok3 hni hsuc3
  have hls3 := insLine_size hok3 hni
  have hlz := line_size (right_small hok3) hni
  refine x.pure rfl (by simp only [AllP]; omega) rfl (show Pure PG _ [insV (b.code.getD ((j : Int).toNat) (ins0 0))] _ [] from by rw [hqe2]; exact line_spec q hin3 hok3) ⟨⟨rfl, rfl, rfl, rfl, rfl, veq0_d rfl, veq0_d rfl, rfl, rfl, trivial⟩, trivial⟩ ?_
  refine x.call [1, 2] rfl (by simp only [AllP, sz3232]; omega) rfl (put_spec (textC (putP acc2 (blkLine b)) (b.code.take j)) (insLine q) (by unfold okL; omega)) rfl ⟨rfl, ⟨rfl, rfl⟩, trivial⟩ ⟨⟨rfl, rfl⟩, ⟨rfl, rfl, rfl, fun _ _ => rfl⟩, trivial⟩ ?_
  refine x.back rfl (by simp only [AllP, inI64]; omega) ⟨⟨j + 1, by omega⟩, by show b.code.length - (j + 1) < b.code.length - j; omega, ⟨⟨rfl, rfl⟩, ⟨rfl, rfl⟩, rfl, veq_d rfl, rfl, rfl, ⟨rfl, rfl⟩, veq_d rfl, rfl, rfl, ⟨rfl, rfl⟩, veq_d rfl, rfl, ?_, trivial⟩, ⟨⟨veq0_d rfl, veq0_d rfl, trivial⟩, ⟨rfl, rfl⟩, ?_, ⟨rfl, veq0_d rfl, veq0_d rfl, rfl, trivial⟩, ⟨rfl, veq0_d rfl, rfl, trivial⟩, trivial⟩, rfl⟩
  · show VEq0 (vi ((j : Int) + 1)) (vi ((j + 1 : Nat) : Int)); rw [Int.natCast_add]; rfl
  · exact ba_eqC hsuc3
end Go.Proofs.YteeofakohenpoaaDoor

/- What may be fits; the chapter's example. -/
namespace Go.Proofs.YteeofakohenpoaaDoor
open Go.Sx
set_option linter.unusedVariables false
set_option linter.unusedSimpArgs false
set_option maxRecDepth 100000

theorem shape_kind {k : Int} {q : Int × Bool × Bool × Bool} (h : shapeV k = some q) : 1 ≤ k ∧ k ≤ 13 := by
  refine Classical.byContradiction fun hk => ?_
  unfold shapeV at h
  rw [if_neg (by omega), if_neg (by omega), if_neg (by omega), if_neg (by omega), if_neg (by omega), if_neg (by omega), if_neg (by omega), if_neg (by omega), if_neg (by omega), if_neg (by omega), if_neg (by omega), if_neg (by omega)] at h
  cases h
theorem right_kind {x : Ins} (h : rightI x = true) : 1 ≤ x.kind ∧ x.kind ≤ 13 := by
  rcases right_cases h with ⟨h1, _⟩ | ⟨n, d, r, a, e, _, _⟩
  · omega
  · exact shape_kind e
theorem right_op {x : Ins} (h : rightI x = true) : 0 ≤ x.op ∧ x.op < 13 := by
  rcases right_cases h with ⟨_, hp⟩ | ⟨n, d, r, a, e, _, hi, ho⟩
  · have := hp.op; omega
  · by_cases hk : x.kind = 2
    · have := ho hk
      refine Classical.byContradiction fun hc => this ?_
      unfold opName
      by_cases h13 : 13 ≤ x.op
      · rw [if_pos h13]; rfl
      · rw [if_neg h13, show x.op.toNat = 0 by omega]; rfl
    · have : x.op = 0 := Classical.byContradiction fun hc => hk (hi.op.1 hc)
      omega
theorem small_fit {x : Ins} (h : rightI x = true) (hn : inI64 x.num) : FitI x := by
  have hk := right_kind h
  have ho := right_op h
  obtain ⟨s1, s2, s3, s4, s5, s6, s7⟩ := right_small h
  refine ⟨by omega, by omega, by unfold okL; omega, by unfold okL; omega, by unfold okL; omega, by unfold bigN; omega, by unfold bigN; omega, fun a ha => by have := s4 a ha; unfold okL; omega, fun a ha => by have := s5 a ha; unfold okL; omega, hn⟩
theorem right_fit {p : Prg} (h : rightP p = true) (hn : ∀ f, f ∈ p.funcs → ∀ b, b ∈ f.blocks → ∀ x, x ∈ b.code → inI64 x.num) : FitP p := by
  obtain ⟨r1, r2, r3, r4⟩ := right_prg h
  refine ⟨by unfold bigL; omega, fun a ha => ?_, by unfold bigL; omega, fun f hf => ?_⟩
  · have hk := r3 a ha
    unfold arrOK at hk
    simp only [Bool.not_eq_true', Bool.or_eq_false_iff, decide_eq_false_iff_not, Bool.not_eq_false'] at hk
    obtain ⟨⟨⟨h1, h2⟩, h3⟩, h4⟩ := hk
    have s1 := okN_size h1
    have s2 := okN_size h2
    exact ⟨by unfold okL; omega, by unfold okL; omega, by unfold inI64; omega⟩
  · obtain ⟨f1, f2, f3, f4, f5⟩ := r4 f hf
    have s1 := okN_size f1
    refine ⟨by unfold okL; omega, by unfold bigN; omega, fun a ha => by have := allN_size f2 a ha; unfold okL; omega, by unfold bigL; omega, fun b hb => ?_⟩
    obtain ⟨b1, b2, b3⟩ := f5 b hb
    have s2 := okN_size b1
    exact ⟨by unfold okL; omega, by unfold bigL; omega, fun x hx => small_fit (b2 x hx) (hn f hf b hb x hx)⟩
def numsB (p : Prg) : Bool := p.funcs.all fun f => f.blocks.all fun b => b.code.all fun x => decide (-9223372036854775808 ≤ x.num) && decide (x.num ≤ 9223372036854775807)
theorem nums_of {p : Prg} (h : numsB p = true) : ∀ f, f ∈ p.funcs → ∀ b, b ∈ f.blocks → ∀ x, x ∈ b.code → inI64 x.num := fun f hf b hb x hx => by
  unfold numsB at h
  have h1 := List.all_eq_true.1 h f hf
  have h2 := List.all_eq_true.1 h1 b hb
  have h3 := List.all_eq_true.1 h2 x hx
  simp only [Bool.and_eq_true, decide_eq_true_eq] at h3
  unfold inI64; omega
def ex8 : ByteArray := ⟨#[102, 110, 32, 109, 97, 105, 110, 32, 40, 32, 41, 32, 123, 97, 58, 120, 61, 99, 111, 110, 115, 116, 32, 55, 32, 121, 32, 61, 32, 99, 97, 108, 108, 32, 102, 40, 120, 44, 120, 41, 114, 101, 116, 117, 114, 110, 32, 121, 125]⟩
def out8 : ByteArray := ⟨#[102, 110, 32, 109, 97, 105, 110, 40, 41, 32, 123, 10, 97, 58, 10, 32, 32, 120, 32, 61, 32, 99, 111, 110, 115, 116, 32, 55, 10, 32, 32, 121, 32, 61, 32, 99, 97, 108, 108, 32, 102, 40, 120, 44, 32, 120, 41, 10, 32, 32, 114, 101, 116, 117, 114, 110, 32, 121, 10, 125, 10]⟩
theorem ex8_e : (parseV ex8).2.2 = 0 ∧ rightP (parseV ex8).1 = true ∧ numsB (parseV ex8).1 = true := by decide +kernel
theorem ex8_p : (printP (parseV ex8).1).1.data.toList = out8.data.toList ∧ (printP (parseV ex8).1).2 = 0 := by decide +kernel
set_option maxHeartbeats 2000000 in
theorem awake8_spec : Pure PG 7 [] (vb true) [] := by
  refine Proc.mk (cfg 26) tysOK [] Tryd.func7 rfl (by kernel_rfl) rfl rfl rfl ?_
  intro C x
  have s1 : ex8.size ≤ 4611686018427387904 := by show (49 : Nat) ≤ _; decide
  refine x.pure rfl trivial rfl (parse7_spec ex8 s1) ⟨rfl, trivial⟩ ?_
  obtain ⟨a1, a2, a3⟩ := ex8_e
  obtain ⟨b1, b2⟩ := ex8_p
  obtain ⟨PA, hA⟩ : ∃ P, parseV ex8 = P := ⟨_, rfl⟩
  rw [hA] at a1 a2 a3 b1 b2 ⊢
  refine x.pure rfl trivial rfl (print_spec PA.1 (right_fit a2 (nums_of a3))) ⟨⟨veq0_d rfl, veq0_d rfl, trivial⟩, trivial⟩ ?_
  refine x.exit rfl trivial ?_
  refine ⟨.inr rfl, ?_, trivial, rfl⟩
  show (decide (PA.2.2 = 0) && decide ((printP PA.1).2 = 0) && decide ((printP PA.1).1.data.toList = out8.data.toList)) = true
  rw [a1, b1, b2]
  simp
end Go.Proofs.YteeofakohenpoaaDoor

/- What is written is read as it was: instructions. -/
namespace Go.Proofs.YteeofakohenpoaaDoor
open Go.Sx
set_option linter.unusedVariables false
set_option linter.unusedSimpArgs false
set_option maxRecDepth 100000

theorem one_list {l : List ByteArray} (h : (l.length : Int) = 1) : l = [l.getD 0 .empty] := by
  match l, h with
  | [a], _ => rfl
  | [], h => simp at h
  | _ :: _ :: _, h => simp at h; omega
theorem two_list {l : List ByteArray} (h : (l.length : Int) = 2) : l = [l.getD 0 .empty, l.getD 1 .empty] := by
  match l, h with
  | [a, b], _ => rfl
  | [], h => simp at h
  | [_], h => simp at h
  | _ :: _ :: _ :: _, h => simp at h; omega
theorem no_list {l : List ByteArray} (h : (l.length : Int) = 0) : l = [] := List.eq_nil_of_length_eq_zero (by omega)
theorem ins_at {x : Ins} {k o n : Int} {d r b : ByteArray} {ps fs : List ByteArray} (a : Int) (h1 : x.kind = k) (h2 : x.op = o) (h3 : x.dst = d) (h4 : x.ref = r) (h5 : x.alt = b) (h6 : x.args = ps) (h7 : x.frm = fs) (h8 : x.num = n) : ({ x with at_ := a } : Ins) = ⟨k, o, d, r, b, ps, fs, n, a⟩ := by
  subst h1 h2 h3 h4 h5 h6 h7 h8; rfl
theorem opV_name {o : Int} (h0 : 1 ≤ o) (h1 : o < 13) : ((opV (opName o) : Nat) : Int) = o := by
  have h : ∀ n, n < 13 → 1 ≤ n → opV (opAt n) = n := by decide +kernel
  have e : opName o = opAt o.toNat := by unfold opName; rw [if_neg (by omega)]
  rw [e, h o.toNat (by omega) (by omega)]
  omega
theorem shape_dst {k n : Int} {d r a : Bool} (h : shapeV k = some (n, d, r, a)) (h6 : k ≠ 6) (h9 : k ≠ 9) (h11 : k ≠ 11) (h12 : k ≠ 12) (h13 : k ≠ 13) : d = true := by
  unfold shapeV at h
  by_cases e1 : k = 1
  · rw [if_pos e1] at h
    have h2 := Option.some.inj h
    exact ((Prod.mk.inj (Prod.mk.inj h2).2).1).symm
  rw [if_neg e1] at h
  by_cases e2 : k = 2
  · rw [if_pos e2] at h
    have h2 := Option.some.inj h
    exact ((Prod.mk.inj (Prod.mk.inj h2).2).1).symm
  rw [if_neg e2] at h
  by_cases e4 : k = 4
  · rw [if_pos e4] at h
    have h2 := Option.some.inj h
    exact ((Prod.mk.inj (Prod.mk.inj h2).2).1).symm
  rw [if_neg e4] at h
  by_cases e5 : k = 5
  · rw [if_pos e5] at h
    have h2 := Option.some.inj h
    exact ((Prod.mk.inj (Prod.mk.inj h2).2).1).symm
  rw [if_neg e5] at h
  rw [if_neg h6] at h
  by_cases e7 : k = 7
  · rw [if_pos e7] at h
    have h2 := Option.some.inj h
    exact ((Prod.mk.inj (Prod.mk.inj h2).2).1).symm
  rw [if_neg e7] at h
  by_cases e8 : k = 8
  · rw [if_pos e8] at h
    have h2 := Option.some.inj h
    exact ((Prod.mk.inj (Prod.mk.inj h2).2).1).symm
  rw [if_neg e8] at h
  rw [if_neg h9] at h
  by_cases e10 : k = 10
  · rw [if_pos e10] at h
    have h2 := Option.some.inj h
    exact ((Prod.mk.inj (Prod.mk.inj h2).2).1).symm
  rw [if_neg e10] at h
  rw [if_neg h11] at h
  rw [if_neg h12] at h
  rw [if_neg h13] at h
  cases h
theorem dst_ok {x : Ins} (hr : rightI x = true) (h6 : x.kind ≠ 6) (h9 : x.kind ≠ 9) (h11 : x.kind ≠ 11) (h12 : x.kind ≠ 12) (h13 : x.kind ≠ 13) : okN x.dst = true := by
  rcases right_cases hr with ⟨_, hp⟩ | ⟨n', d, r, b, hs, h3, hi, _⟩
  · exact hp.dst
  · have e := shape_dst hs h6 h9 h11 h12 h13
    subst e
    exact fits_on hi.dst
section
variable {s : ByteArray} {l : List Tok} {n : Nat} {T : Tks}
theorem f_arg {w : ByteArray} (h : AtT s l n ((1, w) :: T)) (x : Ins) : argV s l n x = .ok (n + 1, { x with args := x.args ++ [w] }) := by
  unfold argV
  rw [f_nm h]; rfl
theorem f_ref {w : ByteArray} (h : AtT s l n ((1, w) :: T)) (x : Ins) : refV s l n x = .ok (n + 1, { x with ref := w }) := by
  unfold refV
  rw [f_nm h]; rfl
theorem f_one7 {w : ByteArray} (h : AtT s l n ((1, w) :: T)) (x : Ins) : oneV7 s l n x = .ok (n + 1, { x with args := [w] }) := by
  unfold oneV7
  rw [f_nm h]; rfl
theorem f_word {w : ByteArray} (h : AtT s l n ((2, w) :: T)) (ho : opV w = 0) (y : Ins) : valueV s l n y = wordV s l n y w.data.toList := by
  unfold valueV
  rw [h.hd.2.2.1, if_neg (by rw [ho]; simp)]
theorem f_value {x : Ins} (hr : rightI x = true) (hn : inI64 x.num) (h6 : x.kind ≠ 6) (h9 : x.kind ≠ 9) (h11 : x.kind ≠ 11) (h12 : x.kind ≠ 12) (h13 : x.kind ≠ 13) (a : Int) (h : AtT s l n (tkV x ++ T)) :
    valueV s l n { ins0 a with dst := x.dst } = .ok (n + (tkV x).length, { x with at_ := a }) := by
  rcases right_cases hr with ⟨hk3, hp⟩ | ⟨n', d, r, b, hs, h3, hi, hop⟩
  · have tk : tkV x = (2, ⟨#[112, 104, 105]⟩) :: (4, ⟨#[91]⟩) :: (tkPairs x ++ [(4, ⟨#[93]⟩)]) := by unfold tkV; rw [hk3]; rfl
    rw [tk] at h ⊢
    have h : AtT s l n ((2, ⟨#[112, 104, 105]⟩) :: ((4, ⟨#[91]⟩) :: ((tkPairs x ++ [(4, ⟨#[93]⟩)]) ++ T))) := h
    rw [List.append_assoc] at h
    rw [f_word h (by decide +kernel)]
    have h2 := f_phi (x := x) (x0 := { ins0 a with dst := x.dst }) hp.len ⟨rfl, rfl⟩ h.hd.2.2.2
    show phiV s l (n + 1) { ins0 a with dst := x.dst } = _
    rw [h2.1, ins_at a hk3 hp.op rfl hp.ref hp.alt rfl rfl hp.num]
    simp only [List.length_cons, List.length_append, List.length_nil, ins0]
    rw [show n + 1 + 2 + (tkPairs x).length = n + ((tkPairs x).length + (0 + 1) + 1 + 1) by omega]
  have hz : x.kind ≠ 2 → x.op = 0 := fun h => Classical.byContradiction fun hc => h (hi.op.1 hc)
  have hm : x.kind ≠ 1 → x.num = 0 := fun h => Classical.byContradiction fun hc => h (hi.num hc)
  by_cases e1 : x.kind = 1
  · obtain ⟨rfl, rfl, rfl, rfl⟩ : (0 : Int) = n' ∧ true = d ∧ false = r ∧ false = b := by rw [e1] at hs; simpa [shapeV] using hs
    have tk : tkV x = [(2, ⟨#[99, 111, 110, 115, 116]⟩), (3, showV x.num)] := by unfold tkV; rw [e1]; rfl
    rw [tk] at h ⊢
    have h : AtT s l n ((2, ⟨#[99, 111, 110, 115, 116]⟩) :: (3, showV x.num) :: T) := h
    rw [f_word h (by decide +kernel)]
    have h2 := h.hd.2.2.2
    show constV s l (n + 1) { ins0 a with dst := x.dst } = _
    unfold constV
    rw [if_pos h2.is, h2.hd.2.2.1, num_back x.num hn, ins_at a e1 (hz (by omega)) rfl (fits_off hi.ref) (fits_off hi.alt) (no_list (hi.alen.1 (by omega))) hi.frm rfl]
    rfl
  by_cases e2 : x.kind = 2
  · obtain ⟨rfl, rfl, rfl, rfl⟩ : (2 : Int) = n' ∧ true = d ∧ false = r ∧ false = b := by rw [e2] at hs; simpa [shapeV] using hs
    have tk : tkV x = [(2, opName x.op), (1, x.args.getD 0 .empty), (1, x.args.getD 1 .empty)] := by unfold tkV; rw [e2]; rfl
    rw [tk] at h ⊢
    have h : AtT s l n ((2, opName x.op) :: (1, x.args.getD 0 .empty) :: (1, x.args.getD 1 .empty) :: T) := h
    have ho := right_op hr
    have ho2 : 1 ≤ x.op := by have := hi.op.2 e2; omega
    have hov := opV_name ho2 ho.2
    have h2 := h.hd.2.2.2
    unfold valueV
    rw [h.hd.2.2.1, if_pos (by omega), f_arg h2]
    simp only [bnd]
    rw [f_arg h2.hd.2.2.2, ins_at a e2 rfl rfl (fits_off hi.ref) (fits_off hi.alt) (two_list (hi.alen.1 (by omega))) hi.frm (hm (by omega)), hov]
    rfl
  by_cases e4 : x.kind = 4
  · obtain ⟨rfl, rfl, rfl, rfl⟩ : (1 : Int) = n' ∧ true = d ∧ true = r ∧ false = b := by rw [e4] at hs; simpa [shapeV] using hs
    have tk : tkV x = [(2, ⟨#[108, 111, 97, 100]⟩), (1, x.ref), (1, x.args.getD 0 .empty)] := by unfold tkV; rw [e4]; rfl
    rw [tk] at h ⊢
    have h : AtT s l n ((2, ⟨#[108, 111, 97, 100]⟩) :: (1, x.ref) :: (1, x.args.getD 0 .empty) :: T) := h
    rw [f_word h (by decide +kernel)]
    have h2 := h.hd.2.2.2
    show cellV 4 s l (n + 1) { ins0 a with dst := x.dst } = _
    unfold cellV
    rw [f_ref h2]
    simp only [bnd]
    rw [f_one7 h2.hd.2.2.2, ins_at a e4 (hz (by omega)) rfl rfl (fits_off hi.alt) (one_list (hi.alen.1 (by omega))) hi.frm (hm (by omega))]
    rfl
  by_cases e5 : x.kind = 5
  · obtain ⟨rfl, rfl, rfl, rfl⟩ : (1 : Int) = n' ∧ true = d ∧ true = r ∧ false = b := by rw [e5] at hs; simpa [shapeV] using hs
    have tk : tkV x = [(2, ⟨#[119, 114, 97, 112]⟩), (1, x.ref), (1, x.args.getD 0 .empty)] := by unfold tkV; rw [e5]; rfl
    rw [tk] at h ⊢
    have h : AtT s l n ((2, ⟨#[119, 114, 97, 112]⟩) :: (1, x.ref) :: (1, x.args.getD 0 .empty) :: T) := h
    rw [f_word h (by decide +kernel)]
    have h2 := h.hd.2.2.2
    show cellV 5 s l (n + 1) { ins0 a with dst := x.dst } = _
    unfold cellV
    rw [f_ref h2]
    simp only [bnd]
    rw [f_one7 h2.hd.2.2.2, ins_at a e5 (hz (by omega)) rfl rfl (fits_off hi.alt) (one_list (hi.alen.1 (by omega))) hi.frm (hm (by omega))]
    rfl
  by_cases e7 : x.kind = 7
  · obtain ⟨rfl, rfl, rfl, rfl⟩ : (-1 : Int) = n' ∧ true = d ∧ true = r ∧ false = b := by rw [e7] at hs; simpa [shapeV] using hs
    have tk : tkV x = (2, ⟨#[99, 97, 108, 108]⟩) :: (1, x.ref) :: (4, ⟨#[40]⟩) :: (tkNs x.args ++ [(4, ⟨#[41]⟩)]) := by unfold tkV; rw [e7]; rfl
    rw [tk] at h ⊢
    have h : AtT s l n ((2, ⟨#[99, 97, 108, 108]⟩) :: (1, x.ref) :: (4, ⟨#[40]⟩) :: ((tkNs x.args ++ [(4, ⟨#[41]⟩)]) ++ T)) := h
    rw [List.append_assoc] at h
    rw [f_word h (by decide +kernel)]
    have h2 := h.hd.2.2.2
    show callV s l (n + 1) { ins0 a with dst := x.dst } = _
    unfold callV
    rw [f_ref h2]
    simp only [bnd]
    rw [(f_names hi.args hi.alen.2 h2.hd.2.2.2).1, ins_at a e7 (hz (by omega)) rfl rfl (fits_off hi.alt) rfl hi.frm (hm (by omega))]
    simp only [List.length_cons, List.length_append, List.length_nil, ins0]
    rw [show n + 1 + 1 + 2 + (tkNs x.args).length = n + ((tkNs x.args).length + (0 + 1) + 1 + 1 + 1) by omega]
  by_cases e8 : x.kind = 8
  · obtain ⟨rfl, rfl, rfl, rfl⟩ : (0 : Int) = n' ∧ true = d ∧ true = r ∧ false = b := by rw [e8] at hs; simpa [shapeV] using hs
    have tk : tkV x = [(2, ⟨#[105, 110, 112, 117, 116]⟩), (1, x.ref)] := by unfold tkV; rw [e8]; rfl
    rw [tk] at h ⊢
    have h : AtT s l n ((2, ⟨#[105, 110, 112, 117, 116]⟩) :: (1, x.ref) :: T) := h
    rw [f_word h (by decide +kernel)]
    have h2 := h.hd.2.2.2
    show inputV s l (n + 1) { ins0 a with dst := x.dst } = _
    unfold inputV
    rw [f_ref h2, ins_at a e8 (hz (by omega)) rfl rfl (fits_off hi.alt) (no_list (hi.alen.1 (by omega))) hi.frm (hm (by omega))]
    rfl
  have e10 := right_ten hr e1 e2 h3 e4 e5 h6 e7 e8 h9 h11 h12 h13
  obtain ⟨rfl, rfl, rfl, rfl⟩ : (1 : Int) = n' ∧ true = d ∧ true = r ∧ false = b := by rw [e10] at hs; simpa [shapeV] using hs
  have tk : tkV x = [(2, ⟨#[114, 101, 108, 101, 97, 115, 101]⟩), (1, x.args.getD 0 .empty), (1, x.ref)] := by unfold tkV; rw [e10]; rfl
  rw [tk] at h ⊢
  have h : AtT s l n ((2, ⟨#[114, 101, 108, 101, 97, 115, 101]⟩) :: (1, x.args.getD 0 .empty) :: (1, x.ref) :: T) := h
  rw [f_word h (by decide +kernel)]
  have h2 := h.hd.2.2.2
  show releaseV s l (n + 1) { ins0 a with dst := x.dst } = _
  unfold releaseV
  rw [f_one7 h2]
  simp only [bnd]
  rw [f_ref h2.hd.2.2.2, ins_at a e10 (hz (by omega)) rfl rfl (fits_off hi.alt) (one_list (hi.alen.1 (by omega))) hi.frm (hm (by omega))]
  rfl
/-! ### instructions -/
theorem act_none {w : ByteArray} (h : okN w = true) : actV s l w.data.toList = none := by
  have hw : wordB w = false := by
    unfold okN at h
    simp only [Bool.and_eq_true, Bool.not_eq_true'] at h
    exact h.2
  have key : ∀ v : ByteArray, wordB v = true → w.data.toList ≠ v.data.toList := fun v hv e => by
    rw [joinB_one.ba_inj8 e, hv] at hw; cases hw
  unfold actV
  rw [if_neg (key ⟨#[115, 116, 111, 114, 101]⟩ (by decide +kernel)), if_neg (key ⟨#[111, 117, 116, 112, 117, 116]⟩ (by decide +kernel)), if_neg (key ⟨#[106, 117, 109, 112]⟩ (by decide +kernel)), if_neg (key ⟨#[98, 114, 97, 110, 99, 104]⟩ (by decide +kernel)), if_neg (key ⟨#[114, 101, 116, 117, 114, 110]⟩ (by decide +kernel))]
theorem f_act {w : ByteArray} {c : Nat} (h : AtT s l n ((2, w) :: T)) (hc : c < 4096) {g : Nat → Ins → Except (Int × Int) (Nat × Ins)} (ha : actV s l w.data.toList = some g) : instrV s l n c = g (n + 1) (ins0 (atV s l n)) := by
  have h1 : isV l n 1 = false := by rw [h.kind]; decide
  unfold instrV
  rw [h.hd.2.2.1, ha, h1, if_neg (by simp), if_neg (by simp), if_neg (by omega)]
theorem f_instr {x : Ins} (hr : rightI x = true) (hn : inI64 x.num) {c : Nat} (hc : c < 4096) (h : AtT s l n (tkI x ++ T)) :
    instrV s l n c = .ok (n + (tkI x).length, { x with at_ := atV s l n }) := by
  have hin : ∀ {n' : Int} {d r b : Bool}, shapeV x.kind = some (n', d, r, b) → x.kind ≠ 3 → RIn x n' d r b := fun hs h3 => by
    rcases right_cases hr with ⟨h1, _⟩ | ⟨n2, d', r', a', e, _, hi, _⟩
    · exact absurd h1 h3
    · rw [hs] at e
      obtain ⟨rfl, rfl, rfl, rfl⟩ : _ = n2 ∧ _ = d' ∧ _ = r' ∧ _ = a' := by simpa using e
      exact hi
  by_cases e6 : x.kind = 6
  · have hi := hin (n' := 2) (d := false) (r := true) (b := false) (by rw [e6]; rfl) (by omega)
    have tk : tkI x = [(2, ⟨#[115, 116, 111, 114, 101]⟩), (1, x.ref), (1, x.args.getD 0 .empty), (1, x.args.getD 1 .empty)] := by unfold tkI; rw [e6]; rfl
    rw [tk] at h ⊢
    have h : AtT s l n ((2, ⟨#[115, 116, 111, 114, 101]⟩) :: (1, x.ref) :: (1, x.args.getD 0 .empty) :: (1, x.args.getD 1 .empty) :: T) := h
    have h2 := h.hd.2.2.2
    rw [f_act h hc (g := act1V s l) rfl]
    unfold act1V
    rw [f_nm h2]
    simp only [bnd]
    rw [f_arg h2.hd.2.2.2]
    simp only [bnd]
    rw [f_arg h2.hd.2.2.2.hd.2.2.2]
    simp only [bnd]
    rw [ins_at _ e6 (Classical.byContradiction fun hc => by have := hi.op.1 hc; omega) (fits_off hi.dst) rfl (fits_off hi.alt) (two_list (hi.alen.1 (by omega))) hi.frm (Classical.byContradiction fun hc => by have := hi.num hc; omega)]
    rfl
  by_cases e9 : x.kind = 9
  · have hi := hin (n' := 1) (d := false) (r := true) (b := false) (by rw [e9]; rfl) (by omega)
    have tk : tkI x = [(2, ⟨#[111, 117, 116, 112, 117, 116]⟩), (1, x.ref), (1, x.args.getD 0 .empty)] := by unfold tkI; rw [e9]; rfl
    rw [tk] at h ⊢
    have h : AtT s l n ((2, ⟨#[111, 117, 116, 112, 117, 116]⟩) :: (1, x.ref) :: (1, x.args.getD 0 .empty) :: T) := h
    have h2 := h.hd.2.2.2
    rw [f_act h hc (g := act2V s l) rfl]
    unfold act2V
    rw [f_nm h2]
    simp only [bnd]
    rw [f_arg h2.hd.2.2.2]
    simp only [bnd]
    rw [ins_at _ e9 (Classical.byContradiction fun hc => by have := hi.op.1 hc; omega) (fits_off hi.dst) rfl (fits_off hi.alt) (one_list (hi.alen.1 (by omega))) hi.frm (Classical.byContradiction fun hc => by have := hi.num hc; omega)]
    rfl
  by_cases e11 : x.kind = 11
  · have hi := hin (n' := 0) (d := false) (r := true) (b := false) (by rw [e11]; rfl) (by omega)
    have tk : tkI x = [(2, ⟨#[106, 117, 109, 112]⟩), (1, x.ref)] := by unfold tkI; rw [e11]; rfl
    rw [tk] at h ⊢
    have h : AtT s l n ((2, ⟨#[106, 117, 109, 112]⟩) :: (1, x.ref) :: T) := h
    have h2 := h.hd.2.2.2
    rw [f_act h hc (g := act3V s l) rfl]
    unfold act3V
    rw [f_nm h2]
    simp only [bnd]
    rw [ins_at _ e11 (Classical.byContradiction fun hc => by have := hi.op.1 hc; omega) (fits_off hi.dst) rfl (fits_off hi.alt) (no_list (hi.alen.1 (by omega))) hi.frm (Classical.byContradiction fun hc => by have := hi.num hc; omega)]
    rfl
  by_cases e12 : x.kind = 12
  · have hi := hin (n' := 1) (d := false) (r := true) (b := true) (by rw [e12]; rfl) (by omega)
    have tk : tkI x = [(2, ⟨#[98, 114, 97, 110, 99, 104]⟩), (1, x.args.getD 0 .empty), (1, x.ref), (1, x.alt)] := by unfold tkI; rw [e12]; rfl
    rw [tk] at h ⊢
    have h : AtT s l n ((2, ⟨#[98, 114, 97, 110, 99, 104]⟩) :: (1, x.args.getD 0 .empty) :: (1, x.ref) :: (1, x.alt) :: T) := h
    have h2 := h.hd.2.2.2
    rw [f_act h hc (g := act4V s l) rfl]
    unfold act4V
    rw [f_arg h2]
    simp only [bnd]
    rw [f_nm h2.hd.2.2.2]
    simp only [bnd]
    rw [f_nm h2.hd.2.2.2.hd.2.2.2]
    simp only [bnd]
    rw [ins_at _ e12 (Classical.byContradiction fun hc => by have := hi.op.1 hc; omega) (fits_off hi.dst) rfl rfl (one_list (hi.alen.1 (by omega))) hi.frm (Classical.byContradiction fun hc => by have := hi.num hc; omega)]
    rfl
  by_cases e13 : x.kind = 13
  · have hi := hin (n' := 1) (d := false) (r := false) (b := false) (by rw [e13]; rfl) (by omega)
    have tk : tkI x = [(2, ⟨#[114, 101, 116, 117, 114, 110]⟩), (1, x.args.getD 0 .empty)] := by unfold tkI; rw [e13]; rfl
    rw [tk] at h ⊢
    have h : AtT s l n ((2, ⟨#[114, 101, 116, 117, 114, 110]⟩) :: (1, x.args.getD 0 .empty) :: T) := h
    have h2 := h.hd.2.2.2
    rw [f_act h hc (g := act5V s l) rfl]
    unfold act5V
    rw [f_arg h2]
    simp only [bnd]
    rw [ins_at _ e13 (Classical.byContradiction fun hc => by have := hi.op.1 hc; omega) (fits_off hi.dst) (fits_off hi.ref) (fits_off hi.alt) (one_list (hi.alen.1 (by omega))) hi.frm (Classical.byContradiction fun hc => by have := hi.num hc; omega)]
    rfl
  have hd := dst_ok hr e6 e9 e11 e12 e13
  have tk : tkI x = (1, x.dst) :: (4, ⟨#[61]⟩) :: tkV x := by unfold tkI; rw [if_neg e6, if_neg e9, if_neg e11, if_neg e12, if_neg e13]
  rw [tk] at h ⊢
  have h : AtT s l n ((1, x.dst) :: (4, ⟨#[61]⟩) :: (tkV x ++ T)) := h
  have h2 := h.hd.2.2.2
  have h3 := h2.hd.2.2.2
  unfold instrV
  rw [h.hd.2.2.1, act_none hd, h.is, if_neg (by simp), if_neg (by rw [h2.hd.2.2.1]; simp), if_neg (by omega)]
  dsimp only
  rw [f_nm h]
  simp only [bnd]
  rw [f_need h2 rfl]
  simp only
  rw [f_value hr hn e6 e9 e11 e12 e13 _ h3]
  simp only [List.length_cons]
  rw [show n + 1 + 1 + (tkV x).length = n + ((tkV x).length + 1 + 1) by omega]
end
end Go.Proofs.YteeofakohenpoaaDoor

/- The tokens of what is written. -/
namespace Go.Proofs.YteeofakohenpoaaDoor
open Go.Sx
set_option linter.unusedVariables false
set_option linter.unusedSimpArgs false
set_option maxRecDepth 100000

theorem pc_op {o : Int} (h0 : 1 ≤ o) (h1 : o < 13) : Pc 2 (opName o) := by
  have h : ∀ n, n < 13 → 1 ≤ n → Pc 2 (opAt n) := by decide +kernel
  have e : opName o = opAt o.toNat := by unfold opName; rw [if_neg (by omega)]
  rw [e]
  exact h _ (by omega) (by omega)
theorem txs_word (w : ByteArray) (h : Pc 2 w) : TxS [(2, w)] w := txs_tok h
theorem tx_value {x : Ins} (hr : rightI x = true) (hn : inI64 x.num) (h6 : x.kind ≠ 6) (h9 : x.kind ≠ 9) (h11 : x.kind ≠ 11) (h12 : x.kind ≠ 12) (h13 : x.kind ≠ 13) : TxS (tkV x) (valueP x) := by
  rcases right_cases hr with ⟨hk3, hp⟩ | ⟨n', d, r, b, hs, h3, hi, hop⟩
  · have tk : tkV x = (2, ⟨#[112, 104, 105]⟩) :: (4, ⟨#[91]⟩) :: (tkPairs x ++ [(4, ⟨#[93]⟩)]) := by unfold tkV; rw [hk3]; rfl
    have ev : valueP x = ((⟨#[112, 104, 105, 32, 91]⟩ : ByteArray) ++ joinB (phiN x x.frm.length) commaS) ++ (⟨#[93]⟩ : ByteArray) := by unfold valueP; rw [hk3]; rfl
    rw [tk, ev, app_assoc]
    have p1 : TxH [(2, (⟨#[112, 104, 105]⟩ : ByteArray)), (4, ⟨#[91]⟩)] ⟨#[112, 104, 105, 32, 91]⟩ := by
      have q1 : TxH ([(2, (⟨#[112, 104, 105]⟩ : ByteArray))] ++ []) (⟨#[112, 104, 105]⟩ ++ ⟨#[32]⟩) := (txs_word ⟨#[112, 104, 105]⟩ (by decide +kernel)).app txh_sp beg_sp
      have q2 : TxH [(4, (⟨#[91]⟩ : ByteArray))] ⟨#[91]⟩ := sg (by decide +kernel)
      have := q1.app q2
      rwa [show ((⟨#[112, 104, 105]⟩ ++ ⟨#[32]⟩) ++ (⟨#[91]⟩ : ByteArray)) = ⟨#[112, 104, 105, 32, 91]⟩ by decide +kernel] at this
    have p2 := tx_pairs (x := x) (fun i hi => ⟨allN_at hp.frm hi, allN_at hp.args (by rw [← hp.len.1]; exact hi)⟩) hp.len.2.1 (sg (w := ⟨#[93]⟩) (by decide +kernel)) beg93
    exact (p1.app p2).weak
  have on : okN x.dst = true := dst_ok hr h6 h9 h11 h12 h13
  by_cases e1 : x.kind = 1
  · have tk : tkV x = [(2, ⟨#[99, 111, 110, 115, 116]⟩), (3, showV x.num)] := by unfold tkV; rw [e1]; rfl
    have ev : valueP x = joinB [⟨#[99, 111, 110, 115, 116]⟩, showV x.num] spS := by unfold valueP; rw [e1]; rfl
    rw [tk, ev]
    exact sp2 (txs_word ⟨#[99, 111, 110, 115, 116]⟩ (by decide +kernel)) (txs_tok (pc_num hn))
  have nm : ∀ i, i < x.args.length → TxS [(1, x.args.getD i .empty)] (x.args.getD i .empty) := fun i h => txs_name (allN_at hi.args h)
  have rf : r = true → TxS [(1, x.ref)] x.ref := fun h => by subst h; exact txs_name (fits_on hi.ref)
  by_cases e2 : x.kind = 2
  · have tk : tkV x = [(2, opName x.op), (1, x.args.getD 0 .empty), (1, x.args.getD 1 .empty)] := by unfold tkV; rw [e2]; rfl
    have ev : valueP x = joinB [opName x.op, x.args.getD 0 .empty, x.args.getD 1 .empty] spS := by unfold valueP; rw [e2]; rfl
    have ho := right_op hr
    have hl := right_len hr (n := 2) (by rw [e2]; rfl) (by omega) (by omega)
    rw [tk, ev]
    exact sp3 (txs_word _ (pc_op (by have := hi.op.2 e2; omega) ho.2)) (nm 0 (by omega)) (nm 1 (by omega))
  by_cases e4 : x.kind = 4
  · have tk : tkV x = [(2, ⟨#[108, 111, 97, 100]⟩), (1, x.ref), (1, x.args.getD 0 .empty)] := by unfold tkV; rw [e4]; rfl
    have ev : valueP x = joinB [⟨#[108, 111, 97, 100]⟩, x.ref, x.args.getD 0 .empty] spS := by unfold valueP; rw [e4]; rfl
    have hl := right_len hr (n := 1) (by rw [e4]; rfl) (by omega) (by omega)
    rw [tk, ev]
    exact sp3 (txs_word ⟨#[108, 111, 97, 100]⟩ (by decide +kernel)) (rf (by rw [e4] at hs; simp [shapeV] at hs; exact hs.2.2.1)) (nm 0 (by omega))
  by_cases e5 : x.kind = 5
  · have tk : tkV x = [(2, ⟨#[119, 114, 97, 112]⟩), (1, x.ref), (1, x.args.getD 0 .empty)] := by unfold tkV; rw [e5]; rfl
    have ev : valueP x = joinB [⟨#[119, 114, 97, 112]⟩, x.ref, x.args.getD 0 .empty] spS := by unfold valueP; rw [e5]; rfl
    have hl := right_len hr (n := 1) (by rw [e5]; rfl) (by omega) (by omega)
    rw [tk, ev]
    exact sp3 (txs_word ⟨#[119, 114, 97, 112]⟩ (by decide +kernel)) (rf (by rw [e5] at hs; simp [shapeV] at hs; exact hs.2.2.1)) (nm 0 (by omega))
  by_cases e7 : x.kind = 7
  · have tk : tkV x = (2, ⟨#[99, 97, 108, 108]⟩) :: (1, x.ref) :: (4, ⟨#[40]⟩) :: (tkNs x.args ++ [(4, ⟨#[41]⟩)]) := by unfold tkV; rw [e7]; rfl
    have ev : valueP x = joinB [⟨#[99, 97, 108, 108]⟩, ((x.ref ++ (⟨#[40]⟩ : ByteArray)) ++ joinB x.args commaS) ++ (⟨#[41]⟩ : ByteArray)] spS := by unfold valueP; rw [e7]; rfl
    rw [tk, ev]
    have p1 : TxH ([(1, x.ref)] ++ [(4, ⟨#[40]⟩)]) (x.ref ++ ⟨#[40]⟩) := (rf (by rw [e7] at hs; simp [shapeV] at hs; exact hs.2.2.1)).app (sg (by decide +kernel)) beg40
    have p2 := tx_names hi.args (sg (w := ⟨#[41]⟩) (by decide +kernel)) beg41
    have p3 := sp2 (txs_word ⟨#[99, 97, 108, 108]⟩ (by decide +kernel)) (p1.app p2).weak
    rw [app_assoc]
    exact p3
  by_cases e8 : x.kind = 8
  · have tk : tkV x = [(2, ⟨#[105, 110, 112, 117, 116]⟩), (1, x.ref)] := by unfold tkV; rw [e8]; rfl
    have ev : valueP x = joinB [⟨#[105, 110, 112, 117, 116]⟩, x.ref] spS := by unfold valueP; rw [e8]; rfl
    rw [tk, ev]
    exact sp2 (txs_word ⟨#[105, 110, 112, 117, 116]⟩ (by decide +kernel)) (rf (by rw [e8] at hs; simp [shapeV] at hs; exact hs.2.2.1))
  have e10 := right_ten hr e1 e2 h3 e4 e5 h6 e7 e8 h9 h11 h12 h13
  have tk : tkV x = [(2, ⟨#[114, 101, 108, 101, 97, 115, 101]⟩), (1, x.args.getD 0 .empty), (1, x.ref)] := by unfold tkV; rw [e10]; rfl
  have ev : valueP x = joinB [⟨#[114, 101, 108, 101, 97, 115, 101]⟩, x.args.getD 0 .empty, x.ref] spS := by unfold valueP; rw [e10]; rfl
  have hl := right_len hr (n := 1) (by rw [e10]; rfl) (by omega) (by omega)
  rw [tk, ev]
  exact sp3 (txs_word ⟨#[114, 101, 108, 101, 97, 115, 101]⟩ (by decide +kernel)) (nm 0 (by omega)) (rf (by rw [e10] at hs; simp [shapeV] at hs; exact hs.2.2.1))
theorem tx_line {x : Ins} (hr : rightI x = true) (hn : inI64 x.num) : TxS (tkI x) (lineP x) := by
  have hin : ∀ {n' : Int} {d r b : Bool}, shapeV x.kind = some (n', d, r, b) → x.kind ≠ 3 → RIn x n' d r b := fun hs h3 => by
    rcases right_cases hr with ⟨h1, _⟩ | ⟨n2, d', r', a', e, _, hi, _⟩
    · exact absurd h1 h3
    · rw [hs] at e
      obtain ⟨rfl, rfl, rfl, rfl⟩ : _ = n2 ∧ _ = d' ∧ _ = r' ∧ _ = a' := by simpa using e
      exact hi
  by_cases e6 : x.kind = 6
  · have hi := hin (n' := 2) (d := false) (r := true) (b := false) (by rw [e6]; rfl) (by omega)
    have hl := hi.alen.1 (by omega)
    have tk : tkI x = [(2, ⟨#[115, 116, 111, 114, 101]⟩), (1, x.ref), (1, x.args.getD 0 .empty), (1, x.args.getD 1 .empty)] := by unfold tkI; rw [e6]; rfl
    have ev : lineP x = joinB [⟨#[115, 116, 111, 114, 101]⟩, x.ref, x.args.getD 0 .empty, x.args.getD 1 .empty] spS := by unfold lineP; rw [e6]; rfl
    rw [tk, ev]
    exact sp4 (txs_word ⟨#[115, 116, 111, 114, 101]⟩ (by decide +kernel)) (txs_name (fits_on hi.ref)) (txs_name (allN_at hi.args (by omega))) (txs_name (allN_at hi.args (by omega)))
  by_cases e9 : x.kind = 9
  · have hi := hin (n' := 1) (d := false) (r := true) (b := false) (by rw [e9]; rfl) (by omega)
    have hl := hi.alen.1 (by omega)
    have tk : tkI x = [(2, ⟨#[111, 117, 116, 112, 117, 116]⟩), (1, x.ref), (1, x.args.getD 0 .empty)] := by unfold tkI; rw [e9]; rfl
    have ev : lineP x = joinB [⟨#[111, 117, 116, 112, 117, 116]⟩, x.ref, x.args.getD 0 .empty] spS := by unfold lineP; rw [e9]; rfl
    rw [tk, ev]
    exact sp3 (txs_word ⟨#[111, 117, 116, 112, 117, 116]⟩ (by decide +kernel)) (txs_name (fits_on hi.ref)) (txs_name (allN_at hi.args (by omega)))
  by_cases e11 : x.kind = 11
  · have hi := hin (n' := 0) (d := false) (r := true) (b := false) (by rw [e11]; rfl) (by omega)
    have tk : tkI x = [(2, ⟨#[106, 117, 109, 112]⟩), (1, x.ref)] := by unfold tkI; rw [e11]; rfl
    have ev : lineP x = joinB [⟨#[106, 117, 109, 112]⟩, x.ref] spS := by unfold lineP; rw [e11]; rfl
    rw [tk, ev]
    exact sp2 (txs_word ⟨#[106, 117, 109, 112]⟩ (by decide +kernel)) (txs_name (fits_on hi.ref))
  by_cases e12 : x.kind = 12
  · have hi := hin (n' := 1) (d := false) (r := true) (b := true) (by rw [e12]; rfl) (by omega)
    have hl := hi.alen.1 (by omega)
    have tk : tkI x = [(2, ⟨#[98, 114, 97, 110, 99, 104]⟩), (1, x.args.getD 0 .empty), (1, x.ref), (1, x.alt)] := by unfold tkI; rw [e12]; rfl
    have ev : lineP x = joinB [⟨#[98, 114, 97, 110, 99, 104]⟩, x.args.getD 0 .empty, x.ref, x.alt] spS := by unfold lineP; rw [e12]; rfl
    rw [tk, ev]
    exact sp4 (txs_word ⟨#[98, 114, 97, 110, 99, 104]⟩ (by decide +kernel)) (txs_name (allN_at hi.args (by omega))) (txs_name (fits_on hi.ref)) (txs_name (fits_on hi.alt))
  by_cases e13 : x.kind = 13
  · have hi := hin (n' := 1) (d := false) (r := false) (b := false) (by rw [e13]; rfl) (by omega)
    have hl := hi.alen.1 (by omega)
    have tk : tkI x = [(2, ⟨#[114, 101, 116, 117, 114, 110]⟩), (1, x.args.getD 0 .empty)] := by unfold tkI; rw [e13]; rfl
    have ev : lineP x = joinB [⟨#[114, 101, 116, 117, 114, 110]⟩, x.args.getD 0 .empty] spS := by unfold lineP; rw [e13]; rfl
    rw [tk, ev]
    exact sp2 (txs_word ⟨#[114, 101, 116, 117, 114, 110]⟩ (by decide +kernel)) (txs_name (allN_at hi.args (by omega)))
  have hd := dst_ok hr e6 e9 e11 e12 e13
  have tk : tkI x = (1, x.dst) :: (4, ⟨#[61]⟩) :: tkV x := by unfold tkI; rw [if_neg e6, if_neg e9, if_neg e11, if_neg e12, if_neg e13]
  have ev : lineP x = joinB [x.dst, ⟨#[61]⟩, valueP x] spS := by unfold lineP; rw [if_neg e6, if_neg e9, if_neg e11, if_neg e12, if_neg e13]
  rw [tk, ev]
  exact sp3 (txs_name hd) (sg (w := ⟨#[61]⟩) (by decide +kernel)).weak (tx_value hr hn e6 e9 e11 e12 e13)
/-! ### lines put together -/
theorem tx_put {ta tl : Tks} {acc l : ByteArray} (h1 : TxH ta acc) (h2 : TxS tl l) : TxH (ta ++ tl) (putP acc l) := by
  have := h2.app txh_nl beg_nl
  rw [List.append_nil] at this
  exact h1.app this
theorem tx_two : TxH [] ⟨#[32, 32]⟩ := by
  have := txh_sp.app txh_sp
  rwa [List.append_nil, show ((⟨#[32]⟩ : ByteArray) ++ (⟨#[32]⟩ : ByteArray)) = ⟨#[32, 32]⟩ by decide +kernel] at this
theorem tx_ins {x : Ins} (hr : rightI x = true) (hn : inI64 x.num) : TxS (tkI x) (insLine x) := by
  have := tx_two.appS (tx_line hr hn)
  exact this
theorem tx_code : ∀ (l : List Ins) (ta : Tks) (acc : ByteArray), (∀ x, x ∈ l → rightI x = true ∧ inI64 x.num) → TxH ta acc → TxH (ta ++ tkC l) (textC acc l)
  | [], ta, acc, _, h => by
    show TxH (ta ++ []) acc
    rw [List.append_nil]; exact h
  | x :: r, ta, acc, hx, h => by
    have h1 := tx_put h (tx_ins (hx x (by simp)).1 (hx x (by simp)).2)
    have ih := tx_code r _ _ (fun y hy => hx y (List.mem_cons_of_mem _ hy)) h1
    rw [List.append_assoc] at ih
    exact ih
theorem tx_blk {b : Blk} (h : okN b.name = true) : TxS [(1, b.name), (4, ⟨#[58]⟩)] (blkLine b) :=
  ((txs_name h).app (sg (w := ⟨#[58]⟩) (by decide +kernel)) beg58).weak
theorem tx_blocks : ∀ (l : List Blk) (ta : Tks) (acc : ByteArray), (∀ b, b ∈ l → BlkR b ∧ ∀ x, x ∈ b.code → inI64 x.num) → TxH ta acc → TxH (ta ++ tkBs l) (textB acc l)
  | [], ta, acc, _, h => by
    show TxH (ta ++ []) acc
    rw [List.append_nil]; exact h
  | b :: r, ta, acc, hb, h => by
    obtain ⟨hb1, hb2⟩ := hb b (by simp)
    have h1 := tx_put h (tx_blk hb1.name)
    have h2 := tx_code b.code _ _ (fun x hx => ⟨hb1.code x hx, hb2 x hx⟩) h1
    have ih := tx_blocks r _ _ (fun y hy => hb y (List.mem_cons_of_mem _ hy)) h2
    rw [List.append_assoc, List.append_assoc] at ih
    exact ih
theorem tx_fn {f : Fun} (h : okN f.name = true) (hp : allN f.params = true) : TxH ((2, (⟨#[102, 110]⟩ : ByteArray)) :: (1, f.name) :: (4, ⟨#[40]⟩) :: (tkNs f.params ++ [(4, ⟨#[41]⟩), (4, ⟨#[123]⟩)])) (fnLine f) := by
  have p0 : TxH ([(2, (⟨#[102, 110]⟩ : ByteArray))] ++ []) (⟨#[102, 110]⟩ ++ ⟨#[32]⟩) := (txs_word ⟨#[102, 110]⟩ (by decide +kernel)).app txh_sp beg_sp
  rw [List.append_nil, show ((⟨#[102, 110]⟩ : ByteArray) ++ (⟨#[32]⟩ : ByteArray)) = ⟨#[102, 110, 32]⟩ by decide +kernel] at p0
  have p1 := (p0.appS (txs_name h)).app (sg (w := ⟨#[40]⟩) (by decide +kernel)) beg40
  have q : TxH [(4, (⟨#[41]⟩ : ByteArray)), (4, ⟨#[123]⟩)] ⟨#[41, 32, 123]⟩ := by
    have q1 := ((sg (w := ⟨#[41]⟩) (by decide +kernel)).app txh_sp).app (sg (w := ⟨#[123]⟩) (by decide +kernel))
    rwa [show (((⟨#[41]⟩ : ByteArray) ++ (⟨#[32]⟩ : ByteArray)) ++ (⟨#[123]⟩ : ByteArray)) = ⟨#[41, 32, 123]⟩ by decide +kernel] at q1
  have p2 := p1.app (tx_names hp q (by unfold Beg; decide +kernel))
  unfold fnLine
  rw [app_assoc]
  exact p2
theorem tx_funcs : ∀ (l : List Fun) (ta : Tks) (acc : ByteArray), (∀ f, f ∈ l → FunR f ∧ ∀ b, b ∈ f.blocks → ∀ x, x ∈ b.code → inI64 x.num) → TxH ta acc → TxH (ta ++ (l.map tkF).flatten) (textF acc l)
  | [], ta, acc, _, h => by
    show TxH (ta ++ []) acc
    rw [List.append_nil]; exact h
  | f :: r, ta, acc, hf, h => by
    obtain ⟨hf1, hf2⟩ := hf f (by simp)
    have h1 := tx_put h (tx_fn hf1.name hf1.params).weak
    have h2 := tx_blocks f.blocks _ _ (fun b hb => ⟨hf1.blocks b hb, hf2 b hb⟩) h1
    have h3 := tx_put h2 (sg (w := ⟨#[125]⟩) (by decide +kernel)).weak
    have ih := tx_funcs r _ _ (fun y hy => hf y (List.mem_cons_of_mem _ hy)) h3
    have e : ta ++ ((f :: r).map tkF).flatten = ((ta ++ (2, (⟨#[102, 110]⟩ : ByteArray)) :: (1, f.name) :: (4, ⟨#[40]⟩) :: (tkNs f.params ++ [(4, ⟨#[41]⟩), (4, ⟨#[123]⟩)])) ++ tkBs f.blocks ++ [(4, ⟨#[125]⟩)]) ++ (r.map tkF).flatten := by
      rw [List.map_cons, List.flatten_cons]
      unfold tkF
      simp only [List.append_assoc, List.cons_append, List.nil_append]
    rw [e]
    exact ih
theorem tx_arr {a : Arr} (h : arrOK a = true) : TxS (tkA a) (arrLine a) := by
  unfold arrOK at h
  simp only [Bool.not_eq_true', Bool.or_eq_false_iff, decide_eq_false_iff_not, Bool.not_eq_false'] at h
  obtain ⟨⟨⟨h1, h2⟩, h3⟩, h4⟩ := h
  exact sp4 (txs_word ⟨#[97, 114, 114, 97, 121]⟩ (by decide +kernel)) (txs_name h1) (txs_tok (pc_num (n := a.size) (by unfold inI64; omega))) (txs_name h2)
theorem tx_arrs : ∀ (l : List Arr) (ta : Tks) (acc : ByteArray), (∀ a, a ∈ l → arrOK a = true) → TxH ta acc → TxH (ta ++ (l.map tkA).flatten) (textA acc l)
  | [], ta, acc, _, h => by
    show TxH (ta ++ []) acc
    rw [List.append_nil]; exact h
  | a :: r, ta, acc, ha, h => by
    have h1 := tx_put h (tx_arr (ha a (by simp)))
    have ih := tx_arrs r _ _ (fun y hy => ha y (List.mem_cons_of_mem _ hy)) h1
    rw [List.append_assoc] at ih
    exact ih
theorem tx_prog {p : Prg} (hr : rightP p = true) (hn : ∀ f, f ∈ p.funcs → ∀ b, b ∈ f.blocks → ∀ x, x ∈ b.code → inI64 x.num) : Txt (tkP p) (textP p) := by
  have hR := right_prg hr
  have h1 := tx_arrs p.arrays [] .empty hR.arrays txh_nil
  have h2 := tx_funcs p.funcs _ _ (fun f hf => ⟨hR.funcs f hf, hn f hf⟩) h1
  exact h2.txt
end Go.Proofs.YteeofakohenpoaaDoor
