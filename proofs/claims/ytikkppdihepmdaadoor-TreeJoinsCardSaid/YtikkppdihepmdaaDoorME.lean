/- Texts put together: T17R. -/
import Derived.Test.YtikkppdihepmdaaDoorMD

/- The law on two programs, one behind the other. -/
namespace Go.Proofs.YtikkppdihepmdaaDoor
open Go.Sx
set_option linter.unusedVariables false
set_option linter.unusedSimpArgs false
set_option maxRecDepth 100000

theorem app_two {α : Type} (d : α → List D) (N : Nat) (hd : ∀ a, (d a).length = N) (x0 : α) (xs ys : List α) (j : Nat) (hj : j < xs.length + ys.length) : app xs.length (fun i => d (xs.getD i x0)) (fun i => d (ys.getD i x0)) j = d ((xs ++ ys).getD j x0) := by
  unfold app
  show zipIte (j < xs.length) (d (xs.getD j x0)) (d (ys.getD (j - xs.length) x0)) = _
  by_cases h : j < xs.length
  · rw [zipIte_pos h _ _ (by rw [hd, hd]), getD_left _ _ _ h]
  · obtain ⟨k, rfl⟩ : ∃ k, j = xs.length + k := ⟨j - xs.length, by omega⟩
    rw [zipIte_neg h _ _ (by rw [hd, hd]), getD_right, Nat.add_sub_cancel_left]
theorem take_getD {α : Type} {l : List α} {i : Nat} (h : i < l.length) (d : α) : l.take (i + 1) = l.take i ++ [l.getD i d] := by
  rw [List.take_succ_eq_append_getElem h, List.getD_eq_getElem?_getD, List.getElem?_eq_getElem h]
  rfl
theorem progN_take {fs : List Fun} {i : Nat} (h : i < fs.length) : progN (fs.take (i + 1)) = progN (fs.take i) + funN (fs.getD i fun0) := by rw [take_getD h fun0, progN_add]
theorem codeN_take {bs : List Blk} {i : Nat} (h : i < bs.length) : codeN (bs.take (i + 1)) = codeN (bs.take i) + (bs.getD i blk0).code.length := by
  rw [take_getD h blk0]
  unfold codeN
  rw [List.map_append, List.sum_append]
  simp
theorem progN_le (fs : List Fun) (i : Nat) : progN (fs.take i) ≤ progN fs := by
  have := List.take_append_drop i fs
  unfold progN
  conv => rhs; rw [← this]
  rw [List.map_append, List.sum_append]; omega
theorem codeN_le (bs : List Blk) (i : Nat) : codeN (bs.take i) ≤ codeN bs := by
  have := List.take_append_drop i bs
  unfold codeN
  conv => rhs; rw [← this]
  rw [List.map_append, List.sum_append]; omega
def baseN (p q : Prg) (i : Nat) : Nat := if i = 0 then 0 else if i = 1 then progN p.funcs else progN p.funcs + progN q.funcs
def selF (p q : Prg) (i : Nat) : List Fun := if i = 0 then p.funcs else q.funcs
theorem baseN_step (p q : Prg) {i : Nat} (h : i < 2) : baseN p q (i + 1) = baseN p q i + progN (selF p q i) := by
  unfold baseN selF
  rcases (by omega : i = 0 ∨ i = 1) with rfl | rfl <;> simp
set_option maxHeartbeats 8000000 in
theorem treeJoins_spec (a b : ByteArray) : Pure PG 4 [vs a, vs b] (vb true) [] := by
  refine Proc.mk (cfg 148) tysOK [] Tryd.func4 rfl (by kernel_rfl) rfl rfl rfl ?_
  intro C x
  refine x.cond rfl trivial (fun h => ?_) (fun h => ?_)
  · refine x.exit rfl trivial ?_
    exact ⟨.inr rfl, rfl, trivial, rfl⟩
  have h : (decide ((10000 : Int) < a.size) || decide ((10000 : Int) < b.size)) = false := h
  simp only [Bool.or_eq_false_iff, decide_eq_false_iff_not] at h
  have ha : a.size ≤ 10000 := by omega
  have hb : b.size ≤ 10000 := by omega
  have hsz : (a ++ (nl ++ b)).size = a.size + b.size + 1 := by rw [app_size, nl_size]; omega
  refine x.pure rfl trivial rfl (parse7_spec a (by omega)) ⟨rfl, trivial⟩ ?_
  refine x.pure rfl trivial rfl (parse7_spec b (by omega)) ⟨rfl, trivial⟩ ?_
  refine x.pure rfl ?_ rfl (parse7_spec (a ++ (nl ++ b)) (by omega)) ⟨?_, trivial⟩ ?_
  · have e1 : (a ++ (⟨#[10]⟩ : ByteArray)).size = a.size + 1 := by rw [app_size]; rfl
    simp only [AllP, e1]
    show ((a.size + 1 : Nat) : Int) ≤ _ ∧ _
    omega
  · exact app_assoc a nl b
  have hj := @tree_joins a b ha hb
  have sa := parse_small a
  have sb := parse_small b
  have sab := parse_small (a ++ (nl ++ b))
  obtain ⟨⟨p, pa, e⟩, hP⟩ : ∃ P, parseV a = P := ⟨_, rfl⟩
  obtain ⟨⟨q, qa, f⟩, hQ⟩ : ∃ P, parseV b = P := ⟨_, rfl⟩
  obtain ⟨⟨r, ra, g⟩, hR⟩ : ∃ P, parseV (a ++ (nl ++ b)) = P := ⟨_, rfl⟩
  rw [hP] at hj sa ⊢
  rw [hQ] at hj sb ⊢
  rw [hR] at hj sab ⊢
  dsimp only at hj sa sb sab
  refine x.cond rfl trivial (fun h1 => ?_) (fun h1 => ?_)
  · refine x.pure rfl trivial rfl awake7_spec trivial ?_
    refine x.exit rfl trivial ?_
    exact ⟨.inr rfl, rfl, trivial, rfl⟩
  have h1 : ((!decide (e = 0)) || (!decide (f = 0))) = false := h1
  have h1 : e = 0 ∧ f = 0 := by simpa using h1
  obtain ⟨⟨n1, n2⟩, hj⟩ := hj h1.1 h1.2
  obtain ⟨sa1, sa2, sa3⟩ := id sa
  obtain ⟨sb1, sb2, sb3⟩ := id sb
  unfold bigL at sa1 sa2 sb1 sb2
  have hS : ∀ i, (selF p q i).length ≤ 1000000000000 ∧ progN (selF p q i) ≤ 4096 ∧ ∀ f, f ∈ selF p q i → SmallF f := fun i => by
    unfold selF
    split
    · exact ⟨sa2, n1, sa3⟩
    · exact ⟨sb2, n2, sb3⟩
  have hbase : ∀ i, baseN p q i ≤ 8192 := fun i => by unfold baseN; split <;> (try split) <;> omega
  refine x.loop (α := { i : Nat // i ≤ 2 }) (fun y => ⟨[(5, .ptr 0 0), (8, .ptr 1 0), (11, .ptr 2 0), (13, vi g), (14, vi (baseN p q y.1 : Int)), (60, .agg [.d (dFuns p.funcs), .d (dFuns q.funcs)]), (61, vi (y.1 : Int))], [(0, .box [.d (dArrs p.arrays), .d (dFuns p.funcs)]), (1, .box [.d (dArrs q.arrays), .d (dFuns q.funcs)]), (2, .box [.d (dArrs r.arrays), .d (dFuns r.funcs)])], 3⟩) (fun y => 2 - y.1) ⟨0, by omega⟩ rfl trivial ⟨⟨⟨rfl, rfl⟩, ⟨rfl, rfl⟩, ⟨rfl, rfl⟩, rfl, rfl, ⟨veq0_d rfl, veq0_d rfl, trivial⟩, rfl, trivial⟩, ⟨⟨veq0_d rfl, veq0_d rfl, trivial⟩, ⟨veq0_d rfl, veq0_d rfl, trivial⟩, ⟨veq0_d rfl, veq0_d rfl, trivial⟩, trivial⟩, rfl⟩ (fun y => ?_)
  obtain ⟨i, hi⟩ := y
  change Go C _ ⟨[(5, .ptr 0 0), (8, .ptr 1 0), (11, .ptr 2 0), (13, vi g), (14, vi (baseN p q i : Int)), (60, .agg [.d (dFuns p.funcs), .d (dFuns q.funcs)]), (61, vi (i : Int))], [(0, .box [.d (dArrs p.arrays), .d (dFuns p.funcs)]), (1, .box [.d (dArrs q.arrays), .d (dFuns q.funcs)]), (2, .box [.d (dArrs r.arrays), .d (dFuns r.funcs)])], 3⟩ _
  refine x.cond rfl trivial (fun h2 => ?_) (fun h2 => ?_)
  · have h2 : (i : Int) < 2 := of_decide_eq_true h2
    have h2 : i < 2 := by omega
    obtain ⟨hS1, hS2, hS3⟩ := hS i
    have hb1 := hbase i
    have hb2 := hbase (i + 1)
    rw [baseN_step p q h2] at hb2
    have hbs := baseN_step p q h2
    obtain ⟨fs, hfs⟩ : ∃ fs, selF p q i = fs := ⟨_, rfl⟩
    rw [hfs] at hS1 hS2 hS3 hb2 hbs
    refine x.loop (α := { k : Nat // k ≤ fs.length }) (fun y => ⟨[(5, .ptr 0 0), (8, .ptr 1 0), (11, .ptr 2 0), (13, vi g), (14, vi ((baseN p q i + progN (fs.take y.1) : Nat) : Int)), (16, .d (dFuns fs)), (17, vi (y.1 : Int)), (60, .agg [.d (dFuns p.funcs), .d (dFuns q.funcs)]), (61, vi (i : Int))], [(0, .box [.d (dArrs p.arrays), .d (dFuns p.funcs)]), (1, .box [.d (dArrs q.arrays), .d (dFuns q.funcs)]), (2, .box [.d (dArrs r.arrays), .d (dFuns r.funcs)])], 3⟩) (fun y => fs.length - y.1) ⟨0, by omega⟩ rfl (by simp only [AllP]; omega) ⟨⟨⟨rfl, rfl⟩, ⟨rfl, rfl⟩, ⟨rfl, rfl⟩, rfl, rfl, ?_, rfl, ⟨veq0_d rfl, veq0_d rfl, trivial⟩, rfl, trivial⟩, ⟨⟨veq0_d rfl, veq0_d rfl, trivial⟩, ⟨veq0_d rfl, veq0_d rfl, trivial⟩, ⟨veq0_d rfl, veq0_d rfl, trivial⟩, trivial⟩, rfl⟩ (fun y => ?_)
    · rw [← hfs]
      rcases (by omega : i = 0 ∨ i = 1) with rfl | rfl <;> exact veq_d rfl
    obtain ⟨k, hk⟩ := y
    change Go C _ ⟨[(5, .ptr 0 0), (8, .ptr 1 0), (11, .ptr 2 0), (13, vi g), (14, vi ((baseN p q i + progN (fs.take k) : Nat) : Int)), (16, .d (dFuns fs)), (17, vi (k : Int)), (60, .agg [.d (dFuns p.funcs), .d (dFuns q.funcs)]), (61, vi (i : Int))], [(0, .box [.d (dArrs p.arrays), .d (dFuns p.funcs)]), (1, .box [.d (dArrs q.arrays), .d (dFuns q.funcs)]), (2, .box [.d (dArrs r.arrays), .d (dFuns r.funcs)])], 3⟩ _
    refine x.cond rfl trivial (fun h3 => ?_) (fun h3 => ?_)
    rotate_left
    · have h3 : ¬ (k : Int) < (fs.length : Int) := of_decide_eq_false h3
      refine x.back rfl (by simp only [AllP, inI64]; omega) ⟨⟨i + 1, by omega⟩, by show 2 - (i + 1) < 2 - i; omega, ⟨⟨rfl, rfl⟩, ⟨rfl, rfl⟩, ⟨rfl, rfl⟩, rfl, ?_, ⟨veq0_d rfl, veq0_d rfl, trivial⟩, by show VEq0 (vi ((i : Int) + 1)) (vi ((i + 1 : Nat) : Int)); rw [Int.natCast_add]; rfl, trivial⟩, ⟨⟨veq0_d rfl, veq0_d rfl, trivial⟩, ⟨veq0_d rfl, veq0_d rfl, trivial⟩, ⟨veq0_d rfl, veq0_d rfl, trivial⟩, trivial⟩, rfl⟩
      show ((baseN p q i + progN (fs.take k) : Nat) : Int) = (baseN p q (i + 1) : Nat)
      rw [hbs, List.take_of_length_le (l := fs) (i := k) (by omega)]
    have h3 : (k : Int) < (fs.length : Int) := of_decide_eq_true h3
    have h3 : k < fs.length := by omega
    have hpt := progN_take h3
    have hpl := progN_le fs (k + 1)
    have hsf := hS3 _ (getD_mem (d := fun0) h3)
    obtain ⟨u, hu⟩ : ∃ u, fs.getD k fun0 = u := ⟨_, rfl⟩
    rw [hu] at hpt hsf
    obtain ⟨sf1, sf2, sf3⟩ := hsf
    unfold bigL at sf2
    have hfu : funN u = codeN u.blocks := rfl
    refine x.loop (α := { j : Nat // j ≤ u.blocks.length }) (fun y => ⟨[(5, .ptr 0 0), (8, .ptr 1 0), (11, .ptr 2 0), (13, vi g), (14, vi ((baseN p q i + progN (fs.take k) + codeN (u.blocks.take y.1) : Nat) : Int)), (16, .d (dFuns fs)), (17, vi (k : Int)), (18, vi (y.1 : Int)), (60, .agg [.d (dFuns p.funcs), .d (dFuns q.funcs)]), (61, vi (i : Int))], [(0, .box [.d (dArrs p.arrays), .d (dFuns p.funcs)]), (1, .box [.d (dArrs q.arrays), .d (dFuns q.funcs)]), (2, .box [.d (dArrs r.arrays), .d (dFuns r.funcs)])], 3⟩) (fun y => u.blocks.length - y.1) ⟨0, by omega⟩ rfl trivial ⟨⟨⟨rfl, rfl⟩, ⟨rfl, rfl⟩, ⟨rfl, rfl⟩, rfl, rfl, veq_d rfl, rfl, rfl, ⟨veq0_d rfl, veq0_d rfl, trivial⟩, rfl, trivial⟩, ⟨⟨veq0_d rfl, veq0_d rfl, trivial⟩, ⟨veq0_d rfl, veq0_d rfl, trivial⟩, ⟨veq0_d rfl, veq0_d rfl, trivial⟩, trivial⟩, rfl⟩ (fun y => ?_)
    obtain ⟨j, hjj⟩ := y
    change Go C _ ⟨[(5, .ptr 0 0), (8, .ptr 1 0), (11, .ptr 2 0), (13, vi g), (14, vi ((baseN p q i + progN (fs.take k) + codeN (u.blocks.take j) : Nat) : Int)), (16, .d (dFuns fs)), (17, vi (k : Int)), (18, vi (j : Int)), (60, .agg [.d (dFuns p.funcs), .d (dFuns q.funcs)]), (61, vi (i : Int))], [(0, .box [.d (dArrs p.arrays), .d (dFuns p.funcs)]), (1, .box [.d (dArrs q.arrays), .d (dFuns q.funcs)]), (2, .box [.d (dArrs r.arrays), .d (dFuns r.funcs)])], 3⟩ _
    have huE : fs.getD ((k : Int)).toNat fun0 = u := by rw [Int.toNat_natCast, hu]
    refine x.cond rfl (by simp only [AllP]; omega) (fun h4 => ?_) (fun h4 => ?_)
    rotate_left
    · have h4 : ¬ (j : Int) < ((fs.getD ((k : Int)).toNat fun0).blocks.length : Int) := of_decide_eq_false h4
      rw [huE] at h4
      refine x.back rfl (by simp only [AllP, inI64]; omega) ⟨⟨k + 1, by omega⟩, by show fs.length - (k + 1) < fs.length - k; omega, ⟨⟨rfl, rfl⟩, ⟨rfl, rfl⟩, ⟨rfl, rfl⟩, rfl, ?_, veq_d rfl, by show VEq0 (vi ((k : Int) + 1)) (vi ((k + 1 : Nat) : Int)); rw [Int.natCast_add]; rfl, ⟨veq0_d rfl, veq0_d rfl, trivial⟩, rfl, trivial⟩, ⟨⟨veq0_d rfl, veq0_d rfl, trivial⟩, ⟨veq0_d rfl, veq0_d rfl, trivial⟩, ⟨veq0_d rfl, veq0_d rfl, trivial⟩, trivial⟩, rfl⟩
      show ((baseN p q i + progN (fs.take k) + codeN (u.blocks.take j) : Nat) : Int) = ((baseN p q i + progN (fs.take (k + 1)) : Nat) : Int)
      rw [List.take_of_length_le (l := u.blocks) (i := j) (by omega), hpt, hfu]
      omega
    have h4 : (j : Int) < ((fs.getD ((k : Int)).toNat fun0).blocks.length : Int) := of_decide_eq_true h4
    rw [huE] at h4
    have h4 : j < u.blocks.length := by omega
    have hct := codeN_take h4
    have hcl := codeN_le u.blocks (j + 1)
    have hbE : ((fs.getD ((k : Int)).toNat fun0).blocks.getD ((j : Int)).toNat blk0).code.length = (u.blocks.getD j blk0).code.length := by rw [huE, Int.toNat_natCast]
    refine x.back rfl ?_ ⟨⟨j + 1, by omega⟩, by show u.blocks.length - (j + 1) < u.blocks.length - j; omega, ⟨⟨rfl, rfl⟩, ⟨rfl, rfl⟩, ⟨rfl, rfl⟩, rfl, ?_, veq_d rfl, rfl, by show VEq0 (vi ((j : Int) + 1)) (vi ((j + 1 : Nat) : Int)); rw [Int.natCast_add]; rfl, ⟨veq0_d rfl, veq0_d rfl, trivial⟩, rfl, trivial⟩, ⟨⟨veq0_d rfl, veq0_d rfl, trivial⟩, ⟨veq0_d rfl, veq0_d rfl, trivial⟩, ⟨veq0_d rfl, veq0_d rfl, trivial⟩, trivial⟩, rfl⟩
    · simp only [AllP, Int.toNat_natCast, hu, inI64]
      omega
    · show ((baseN p q i + progN (fs.take k) + codeN (u.blocks.take j) : Nat) : Int) + (((fs.getD ((k : Int)).toNat fun0).blocks.getD ((j : Int)).toNat blk0).code.length : Int) = ((baseN p q i + progN (fs.take k) + codeN (u.blocks.take (j + 1)) : Nat) : Int)
      rw [hbE, hct]
      omega
  have h2 : ¬ (i : Int) < 2 := of_decide_eq_false h2
  have h2 : i = 2 := by omega
  subst h2
  have hb2 : baseN p q 2 = progN p.funcs + progN q.funcs := rfl
  rw [hb2]
  refine x.cond rfl (by simp only [AllP, inI64]; omega) (fun h3 => ?_) (fun h3 => ?_)
  · have h3 : ((decide ((4096 : Int) < ((progN p.funcs + progN q.funcs : Nat) : Int)) || decide ((16 : Int) < (p.arrays.length : Int) + (q.arrays.length : Int))) || decide ((64 : Int) < (p.funcs.length : Int) + (q.funcs.length : Int))) = true := h3
    simp only [Bool.or_eq_true, decide_eq_true_eq] at h3
    rw [if_neg (by omega)] at hj
    refine x.pureG rfl trivial rfl (fun _ => awake7_spec) rfl trivial ?_
    refine x.exit rfl trivial ?_
    refine ⟨.inr rfl, (show VEq0 (vb _) (vb true) from ?_), trivial, rfl⟩
    rw [hj]; rfl
  have h3 : ((decide ((4096 : Int) < ((progN p.funcs + progN q.funcs : Nat) : Int)) || decide ((16 : Int) < (p.arrays.length : Int) + (q.arrays.length : Int))) || decide ((64 : Int) < (p.funcs.length : Int) + (q.funcs.length : Int))) = false := h3
  simp only [Bool.or_eq_false_iff, decide_eq_false_iff_not] at h3
  rw [if_pos (by omega)] at hj
  refine x.every2 [3] [0, 2, 3, 5, 6] (.fork 1 (.fork 4 (.fork 7 (.fork 8 (.fork 9 .leaf .no) .no) .no) .no) .no)
    ⟨[(5, .ptr 0 0), (8, .ptr 1 0), (11, .ptr 2 0), (13, vi g), (19, .ptr 3 0)], [(3, .box [.own 4, .nils]), (4, arrsC (p.arrays ++ q.arrays))], 5⟩
    rfl trivial mixedP (by kernel_rfl) Ret.noPanic rfl trivial (fun C2 x2 => ?_) ?_
  · refine ⟨x2.back rfl trivial ⟨x2.back rfl (by simp only [AllP, big]; omega) ⟨x2.back rfl (by simp only [AllP, big]; omega) ⟨x2.back rfl trivial ⟨x2.back rfl trivial (.inl ?_), trivial⟩, trivial⟩, trivial⟩, trivial⟩, trivial⟩
    · exact ⟨⟨⟨rfl, rfl⟩, ⟨rfl, rfl⟩, ⟨rfl, rfl⟩, rfl, ⟨rfl, rfl⟩, trivial⟩, ⟨⟨rfl, trivial, trivial⟩, ⟨rfl, rfl, by simp, fun j hj => app_two dArr 4 (fun _ => rfl) arr0 p.arrays q.arrays j hj⟩, trivial⟩, rfl⟩
  refine x.every2 [3] [0, 2, 3, 5, 6] (.fork 1 (.fork 4 (.fork 7 (.fork 8 (.fork 9 .leaf .no) .no) .no) .no) .no)
    ⟨[(5, .ptr 0 0), (8, .ptr 1 0), (11, .ptr 2 0), (13, vi g), (19, .ptr 3 0)], [(3, .box [.own 4, .own 5]), (5, funsC (p.funcs ++ q.funcs))], 6⟩
    rfl trivial mixedP (by kernel_rfl) Ret.noPanic rfl trivial (fun C2 x2 => ?_) ?_
  · refine ⟨x2.back rfl trivial ⟨x2.back rfl (by simp only [AllP, big]; omega) ⟨x2.back rfl (by simp only [AllP, big]; omega) ⟨x2.back rfl trivial ⟨x2.back rfl trivial (.inl ?_), trivial⟩, trivial⟩, trivial⟩, trivial⟩, trivial⟩
    · exact ⟨⟨⟨rfl, rfl⟩, ⟨rfl, rfl⟩, ⟨rfl, rfl⟩, rfl, ⟨rfl, rfl⟩, trivial⟩, ⟨⟨rfl, rfl, trivial⟩, ⟨rfl, rfl, by simp, fun j hj => app_two dFun 4 (fun _ => rfl) fun0 p.funcs q.funcs j hj⟩, trivial⟩, rfl⟩
  refine Sx.Go.freeze 4 ?_
  refine Sx.Go.freeze 5 ?_
  have sm : SmallP ⟨p.arrays ++ q.arrays, p.funcs ++ q.funcs⟩ := by
    refine ⟨?_, ?_, fun f hf => ?_⟩
    · unfold bigL; show (p.arrays ++ q.arrays).length ≤ _; rw [List.length_append]; omega
    · unfold bigL; show (p.funcs ++ q.funcs).length ≤ _; rw [List.length_append]; omega
    · rcases List.mem_append.1 hf with hf | hf
      · exact sa3 f hf
      · exact sb3 f hf
  refine x.pureG rfl trivial rfl (fun _ => same_spec r ⟨p.arrays ++ q.arrays, p.funcs ++ q.funcs⟩ false sab sm) rfl ⟨⟨veq0_d rfl, veq0_d rfl, trivial⟩, ⟨veq0_d rfl, veq0_d rfl, trivial⟩, rfl, trivial⟩ ?_
  refine x.pureG rfl trivial rfl (fun _ => awake7_spec) rfl trivial ?_
  refine x.exit rfl trivial ?_
  refine ⟨.inr rfl, (show VEq0 (vb _) (vb true) from ?_), trivial, rfl⟩
  rw [hj.1, hj.2]
  rfl
end Go.Proofs.YtikkppdihepmdaaDoor
