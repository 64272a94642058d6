/- Texts put together: T18B, T08I, T18C. -/
import Derived.Test.YteeofakohenpoaaGreatDoorMD
import Derived.Test.YteeofakohenpoaaGreatDoorMC

/- The answer's line of an instruction. -/
namespace Go.Proofs.YteeofakohenpoaaGreatDoor
open Go.Sx
set_option linter.unusedVariables false
set_option linter.unusedSimpArgs false
set_option maxRecDepth 100000

theorem okN_pos {s : ByteArray} (h : okN s = true) : 0 < s.size := by
  unfold okN at h
  simp only [Bool.and_eq_true] at h
  have hn : nameW s s.size 0 0 = true := h.1
  rcases Nat.eq_zero_or_pos s.size with h0 | h0
  · rw [h0] at hn; exact absurd hn (by rw [nameW]; decide)
  · exact h0
theorem refopname_spec (o : Int) (h0 : 0 ≤ o) (h1 : o < 13) : Pure PG 32 [.d (.int .u8 o)] (vs (opName o)) [] := by
  refine Proc.mk (cfg 14) tysOK [] Tryz.func32 rfl (by kernel_rfl) rfl rfl rfl ?_
  intro C x
  have hop : opName o = opAt o.toNat := by unfold opName; rw [if_neg (by omega)]
  refine x.cond rfl trivial (fun h => ?_) (fun h => ?_)
  · have h : (decide (o < 1) || decide (12 < o)) = true := h
    simp only [Bool.or_eq_true, decide_eq_true_eq] at h
    refine x.exit rfl trivial ?_
    rw [hop, show o.toNat = 0 by omega]
    exact ⟨.inr rfl, rfl, trivial, rfl⟩
  · have h : (decide (o < 1) || decide (12 < o)) = false := h
    simp only [Bool.or_eq_false_iff, decide_eq_false_iff_not] at h
    refine x.call [] rfl trivial rfl refopnames_spec rfl trivial trivial ?_
    have hw : IntKind.u8.wrap (o - 1) = o - 1 := by rw [IntKind.wrap_u8]; omega
    refine x.exit rfl (by simp only [AllP]; omega) ?_
    refine ⟨.inr rfl, ?_, trivial, rfl⟩
    show opAt ((IntKind.u8.wrap (o - 1)).toNat + 1) = opName o
    rw [hw, hop, show (o - 1).toNat + 1 = o.toNat by omega]
/-! ### texts joined -/
def midJ (l : List ByteArray) (i : Nat) : ByteArray := if 0 < i then joinB (l.take i) commaS ++ commaS else joinB (l.take i) commaS
theorem midJ_next {l : List ByteArray} {i : Nat} (h : i < l.length) : midJ l i ++ l.getD i .empty = joinB (l.take (i + 1)) commaS := by
  rw [List.take_succ_eq_append_getElem h, List.getD_eq_getElem?_getD, List.getElem?_eq_getElem h]
  unfold midJ
  by_cases hi : 0 < i
  · rw [if_pos hi, joinB_snoc _ _ _ (fun e => by have := congrArg List.length e; rw [List.length_take] at this; simp only [List.length_nil] at this; omega)]
    exact joinB_one.ba_inj8 (by simp only [app_data, List.append_assoc]; rfl)
  · obtain rfl : i = 0 := by omega
    rw [if_neg hi, List.take_zero, joinB_nil, List.nil_append, joinB_one]
    exact joinB_one.ba_inj8 (by rw [app_data]; rfl)
theorem take_joined {l : List ByteArray} {k : Nat} (h : ∀ a, a ∈ l → a.size ≤ k) (i : Nat) : (joinB (l.take i) commaS).size ≤ l.length * (k + 2) := by
  have h1 := joinB_size commaS k (l.take i) fun a ha => h a (List.mem_of_mem_take ha)
  have h2 : (l.take i).length * (k + commaS.size) ≤ l.length * (k + 2) := Nat.mul_le_mul_right _ (by rw [List.length_take]; omega)
  omega
theorem joined_spec (l : List ByteArray) (hl : l.length ≤ 64) (hs : ∀ a, a ∈ l → a.size ≤ 96) : Pure PG 23 [.d (dStrs l)] (vs (joinB l commaS)) [] := by
  refine Proc.mk (cfg 22) tysOK [] Tryz.func23 rfl (by kernel_rfl) rfl rfl rfl ?_
  intro C x
  refine x.loop (α := IW l.length) (fun y => ⟨[(0, .d (dStrs l)), (3, vs (joinB (l.take y.i) commaS)), (4, vi (y.i : Int))], [], 0⟩) (fun y => l.length - y.i) ⟨0, Nat.zero_le _⟩ rfl trivial ⟨⟨veq_d rfl, rfl, rfl, trivial⟩, trivial, rfl⟩ (fun y => ?_)
  obtain ⟨i, hi⟩ := y
  change Go C _ ⟨[(0, .d (dStrs l)), (3, vs (joinB (l.take i) commaS)), (4, vi (i : Int))], [], 0⟩ _
  have hz := take_joined hs i
  have hz2 : l.length * (96 + 2) ≤ 64 * 98 := Nat.mul_le_mul_right _ hl
  have hc : commaS.size = 2 := rfl
  refine x.cond rfl trivial (fun h2 => ?_) (fun h2 => ?_)
  · have h2 : (i : Int) < (l.length : Int) := of_decide_eq_true h2
    have h2 : i < l.length := by omega
    have hg := getD_small hs i
    refine x.ite (α := Unit) (fun _ => ⟨[(0, .d (dStrs l)), (3, vs (midJ l i)), (4, vi (i : Int))], [], 0⟩) rfl trivial (fun h3 => ?_) (fun h3 => ?_) (fun _ => ?_)
    · have h3 : (0 : Int) < (i : Int) := of_decide_eq_true h3
      refine x.back rfl (by simp only [AllP]; show (((joinB (l.take i) commaS).size + commaS.size : Nat) : Int) ≤ _; omega) ⟨(), ⟨veq_d rfl, ?_, rfl, trivial⟩, trivial, rfl⟩
      show joinB (l.take i) commaS ++ commaS = midJ l i
      unfold midJ; rw [if_pos (by omega)]
    · have h3 : ¬ (0 : Int) < (i : Int) := of_decide_eq_false h3
      refine x.back rfl trivial ⟨(), ⟨veq_d rfl, ?_, rfl, trivial⟩, trivial, rfl⟩
      show joinB (l.take i) commaS = midJ l i
      unfold midJ; rw [if_neg (by omega)]
    have hm : (midJ l i).size ≤ 6400 := by
      unfold midJ
      split
      · rw [app_size]; omega
      · omega
    refine x.back rfl (by simp only [AllP, Int.toNat_natCast, inI64]; omega) ⟨⟨i + 1, by omega⟩, by show l.length - (i + 1) < l.length - i; omega, ⟨veq_d rfl, ?_, ?_, trivial⟩, trivial, rfl⟩
    · show midJ l i ++ l.getD ((i : Int).toNat) .empty = joinB (l.take (i + 1)) commaS
      rw [Int.toNat_natCast]
      exact midJ_next h2
    · show VEq0 (vi ((i : Int) + 1)) (vi ((i + 1 : Nat) : Int)); rw [Int.natCast_add]; rfl
  · have h2 : ¬ (i : Int) < (l.length : Int) := of_decide_eq_false h2
    obtain rfl : i = l.length := by omega
    refine x.exit rfl trivial ?_
    rw [List.take_length]
    exact ⟨.inr rfl, rfl, trivial, rfl⟩
/-! ### lines -/
def lineW : List ByteArray := [.empty, ⟨#[99, 111, 110, 115, 116, 32]⟩, .empty, ⟨#[112, 104, 105, 32, 91]⟩, ⟨#[108, 111, 97, 100, 32]⟩, ⟨#[119, 114, 97, 112, 32]⟩, ⟨#[115, 116, 111, 114, 101, 32]⟩, ⟨#[99, 97, 108, 108, 32]⟩, ⟨#[105, 110, 112, 117, 116, 32]⟩, ⟨#[111, 117, 116, 112, 117, 116, 32]⟩, ⟨#[114, 101, 108, 101, 97, 115, 101, 32]⟩, ⟨#[106, 117, 109, 112, 32]⟩, ⟨#[98, 114, 97, 110, 99, 104, 32]⟩, ⟨#[114, 101, 116, 117, 114, 110, 32]⟩]
abbrev eqS : ByteArray := ⟨#[32, 61, 32]⟩
def out0 (x : Ins) : ByteArray := if 0 < x.dst.size then x.dst ++ eqS else .empty
def out1 (x : Ins) : ByteArray := out0 x ++ lineW.getD x.kind.toNat .empty
theorem words_small : ∀ i, (lineW.getD i .empty).size ≤ 8 := by
  have h : ∀ a, a ∈ lineW → a.size ≤ 8 := by decide +kernel
  exact fun i => getD_small h i
theorem out1_size {x : Ins} (h : SmallN x) : (out1 x).size ≤ 110 := by
  have h1 := words_small x.kind.toNat
  have h2 := h.dst
  have h3 : eqS.size = 3 := rfl
  unfold out1 out0
  rw [app_size]
  split
  · rw [app_size]; omega
  · show 0 + _ ≤ _; omega
theorem out0_on {x : Ins} (h : okN x.dst = true) : out0 x = x.dst ++ eqS := by unfold out0; rw [if_pos (okN_pos h)]
theorem out0_off {x : Ins} (h : x.dst = .empty) : out0 x = .empty := by unfold out0; rw [h]; rfl
theorem right_in {x : Ins} (h : rightI x = true) (h3 : x.kind ≠ 3) {n : Int} {d r a : Bool} (hs : shapeV x.kind = some (n, d, r, a)) : RIn x n d r a := by
  rcases right_cases h with ⟨h1, _⟩ | ⟨n', d', r', a', e, _, hi, _⟩
  · exact absurd h1 h3
  · rw [hs] at e
    obtain ⟨rfl, rfl, rfl, rfl⟩ : n = n' ∧ d = d' ∧ r = r' ∧ a = a' := by simpa using e
    exact hi
theorem nil_app (b : ByteArray) : ByteArray.empty ++ b = b := joinB_one.ba_inj8 (by rw [app_data]; rfl)
def midP (x : Ins) (i : Nat) : ByteArray := if 0 < i then (out1 x ++ joinB (phiN x i) commaS) ++ commaS else out1 x ++ joinB (phiN x i) commaS
theorem midP_next (x : Ins) (i : Nat) : midP x i ++ ((x.frm.getD i .empty ++ (⟨#[58, 32]⟩ : ByteArray)) ++ x.args.getD i .empty) = out1 x ++ joinB (phiN x (i + 1)) commaS := by
  rw [phiN_succ]
  unfold midP
  by_cases hi : 0 < i
  · rw [if_pos hi, joinB_snoc _ _ _ (fun e => by have := congrArg List.length e; rw [phiN_len] at this; simp at this; omega)]
    exact joinB_one.ba_inj8 (by simp only [app_data, List.append_assoc])
  · obtain rfl : i = 0 := by omega
    rw [if_neg hi, show phiN x 0 = [] from rfl, joinB_nil, List.nil_append, joinB_one]
    exact joinB_one.ba_inj8 (by simp only [app_data, List.append_assoc]; rfl)
theorem toN1 : Int.toNat 1 = 1 := rfl
theorem sz32 : (⟨#[32]⟩ : ByteArray).size = 1 := rfl
theorem lk1 {x : Ins} (hk : x.kind = 1) (hd : okN x.dst = true) : out1 x ++ showV x.num = lineP x := by
  have e : lineP x = joinB [x.dst, ⟨#[61]⟩, joinB [⟨#[99, 111, 110, 115, 116]⟩, showV x.num] spS] spS := by unfold lineP valueP; rw [hk]; rfl
  rw [e, out1, out0_on hd, hk, join3, join2]
  exact joinB_one.ba_inj8 (by simp only [app_data, List.append_assoc]; rfl)
theorem lk2 {x : Ins} (hk : x.kind = 2) (hd : okN x.dst = true) : ((((out1 x ++ opName x.op) ++ (⟨#[32]⟩ : ByteArray)) ++ x.args.getD 0 .empty) ++ (⟨#[32]⟩ : ByteArray)) ++ x.args.getD 1 .empty = lineP x := by
  have e : lineP x = joinB [x.dst, ⟨#[61]⟩, joinB [opName x.op, x.args.getD 0 .empty, x.args.getD 1 .empty] spS] spS := by unfold lineP valueP; rw [hk]; rfl
  rw [e, out1, out0_on hd, hk, join3, join3]
  exact joinB_one.ba_inj8 (by simp only [app_data, List.append_assoc]; rfl)
theorem lk3 {x : Ins} (hk : x.kind = 3) (hd : okN x.dst = true) : (out1 x ++ joinB (phiN x x.frm.length) commaS) ++ (⟨#[93]⟩ : ByteArray) = lineP x := by
  have e : lineP x = joinB [x.dst, ⟨#[61]⟩, ((⟨#[112, 104, 105, 32, 91]⟩ : ByteArray) ++ joinB (phiN x x.frm.length) commaS) ++ (⟨#[93]⟩ : ByteArray)] spS := by unfold lineP valueP; rw [hk]; rfl
  rw [e, out1, out0_on hd, hk, join3]
  exact joinB_one.ba_inj8 (by simp only [app_data, List.append_assoc]; rfl)
theorem lk4 {x : Ins} (hk : x.kind = 4) (hd : okN x.dst = true) : ((out1 x ++ x.ref) ++ (⟨#[32]⟩ : ByteArray)) ++ x.args.getD 0 .empty = lineP x := by
  have e : lineP x = joinB [x.dst, ⟨#[61]⟩, joinB [⟨#[108, 111, 97, 100]⟩, x.ref, x.args.getD 0 .empty] spS] spS := by unfold lineP valueP; rw [hk]; rfl
  rw [e, out1, out0_on hd, hk, join3, join3]
  exact joinB_one.ba_inj8 (by simp only [app_data, List.append_assoc]; rfl)
theorem lk5 {x : Ins} (hk : x.kind = 5) (hd : okN x.dst = true) : ((out1 x ++ x.ref) ++ (⟨#[32]⟩ : ByteArray)) ++ x.args.getD 0 .empty = lineP x := by
  have e : lineP x = joinB [x.dst, ⟨#[61]⟩, joinB [⟨#[119, 114, 97, 112]⟩, x.ref, x.args.getD 0 .empty] spS] spS := by unfold lineP valueP; rw [hk]; rfl
  rw [e, out1, out0_on hd, hk, join3, join3]
  exact joinB_one.ba_inj8 (by simp only [app_data, List.append_assoc]; rfl)
theorem lk6 {x : Ins} (hk : x.kind = 6) (hd : x.dst = .empty) : ((((out1 x ++ x.ref) ++ (⟨#[32]⟩ : ByteArray)) ++ x.args.getD 0 .empty) ++ (⟨#[32]⟩ : ByteArray)) ++ x.args.getD 1 .empty = lineP x := by
  have e : lineP x = joinB [⟨#[115, 116, 111, 114, 101]⟩, x.ref, x.args.getD 0 .empty, x.args.getD 1 .empty] spS := by unfold lineP; rw [hk]; rfl
  rw [e, out1, out0_off hd, hk, join4]
  exact joinB_one.ba_inj8 (by simp only [app_data, List.append_assoc]; rfl)
theorem lk7 {x : Ins} (hk : x.kind = 7) (hd : okN x.dst = true) : (((out1 x ++ x.ref) ++ (⟨#[40]⟩ : ByteArray)) ++ joinB x.args commaS) ++ (⟨#[41]⟩ : ByteArray) = lineP x := by
  have e : lineP x = joinB [x.dst, ⟨#[61]⟩, joinB [⟨#[99, 97, 108, 108]⟩, ((x.ref ++ (⟨#[40]⟩ : ByteArray)) ++ joinB x.args commaS) ++ (⟨#[41]⟩ : ByteArray)] spS] spS := by unfold lineP valueP; rw [hk]; rfl
  rw [e, out1, out0_on hd, hk, join3, join2]
  exact joinB_one.ba_inj8 (by simp only [app_data, List.append_assoc]; rfl)
theorem lk8 {x : Ins} (hk : x.kind = 8) (hd : okN x.dst = true) : out1 x ++ x.ref = lineP x := by
  have e : lineP x = joinB [x.dst, ⟨#[61]⟩, joinB [⟨#[105, 110, 112, 117, 116]⟩, x.ref] spS] spS := by unfold lineP valueP; rw [hk]; rfl
  rw [e, out1, out0_on hd, hk, join3, join2]
  exact joinB_one.ba_inj8 (by simp only [app_data, List.append_assoc]; rfl)
theorem lk9 {x : Ins} (hk : x.kind = 9) (hd : x.dst = .empty) : ((out1 x ++ x.ref) ++ (⟨#[32]⟩ : ByteArray)) ++ x.args.getD 0 .empty = lineP x := by
  have e : lineP x = joinB [⟨#[111, 117, 116, 112, 117, 116]⟩, x.ref, x.args.getD 0 .empty] spS := by unfold lineP; rw [hk]; rfl
  rw [e, out1, out0_off hd, hk, join3]
  exact joinB_one.ba_inj8 (by simp only [app_data, List.append_assoc]; rfl)
theorem lk10 {x : Ins} (hk : x.kind = 10) (hd : okN x.dst = true) : ((out1 x ++ x.args.getD 0 .empty) ++ (⟨#[32]⟩ : ByteArray)) ++ x.ref = lineP x := by
  have e : lineP x = joinB [x.dst, ⟨#[61]⟩, joinB [⟨#[114, 101, 108, 101, 97, 115, 101]⟩, x.args.getD 0 .empty, x.ref] spS] spS := by unfold lineP valueP; rw [hk]; rfl
  rw [e, out1, out0_on hd, hk, join3, join3]
  exact joinB_one.ba_inj8 (by simp only [app_data, List.append_assoc]; rfl)
theorem lk11 {x : Ins} (hk : x.kind = 11) (hd : x.dst = .empty) : out1 x ++ x.ref = lineP x := by
  have e : lineP x = joinB [⟨#[106, 117, 109, 112]⟩, x.ref] spS := by unfold lineP; rw [hk]; rfl
  rw [e, out1, out0_off hd, hk, join2]
  exact joinB_one.ba_inj8 (by simp only [app_data, List.append_assoc]; rfl)
theorem lk12 {x : Ins} (hk : x.kind = 12) (hd : x.dst = .empty) : ((((out1 x ++ x.args.getD 0 .empty) ++ (⟨#[32]⟩ : ByteArray)) ++ x.ref) ++ (⟨#[32]⟩ : ByteArray)) ++ x.alt = lineP x := by
  have e : lineP x = joinB [⟨#[98, 114, 97, 110, 99, 104]⟩, x.args.getD 0 .empty, x.ref, x.alt] spS := by unfold lineP; rw [hk]; rfl
  rw [e, out1, out0_off hd, hk, join4]
  exact joinB_one.ba_inj8 (by simp only [app_data, List.append_assoc]; rfl)
theorem lk13 {x : Ins} (hk : x.kind = 13) (hd : x.dst = .empty) : out1 x ++ x.args.getD 0 .empty = lineP x := by
  have e : lineP x = joinB [⟨#[114, 101, 116, 117, 114, 110]⟩, x.args.getD 0 .empty] spS := by unfold lineP; rw [hk]; rfl
  rw [e, out1, out0_off hd, hk, join2]
  exact joinB_one.ba_inj8 (by simp only [app_data, List.append_assoc]; rfl)
theorem app_nil' (a : ByteArray) : a ++ joinB [] commaS = a := joinB_one.ba_inj8 (by rw [joinB_nil, app_data]; simp)
set_option maxHeartbeats 8000000 in
theorem refline_spec (x0 : Ins) (hx : FitI x0) (hr : rightI x0 = true) : Pure PG 13 [insV x0] (vs (lineP x0)) [] := by
  refine Proc.mk (cfg 162) tysOK [] Tryz.func13 rfl (by kernel_rfl) rfl rfl rfl ?_
  intro C x
  have hs := right_small hr
  have hk := right_kind hr
  have ho := right_op hr
  have hz := out1_size hs
  have hal := hs.alen
  have hfl := hs.flen
  have hd := hs.dst
  have hrf := hs.ref
  have hat := hs.alt
  have ha0 := getD_small hs.args 0
  have ha1 := getD_small hs.args 1
  have ke : eqS.size = 3 := rfl
  have hons : ∀ {n : Int} {r a : Bool}, shapeV x0.kind = some (n, true, r, a) → x0.kind ≠ 3 → okN x0.dst = true := fun h h3 => fits_on (right_in hr h3 h).dst
  have hoff : ∀ {n : Int} {r a : Bool}, shapeV x0.kind = some (n, false, r, a) → x0.kind ≠ 3 → x0.dst = .empty := fun h h3 => fits_off (right_in hr h3 h).dst
  refine x.ite (α := Unit) (fun _ => ⟨[(1, .ptr 0 0), (3, .own 1), (4, vs (out0 x0))], [(0, .box [.d (.int .u8 x0.kind), .d (.int .u8 x0.op), vs x0.dst, vs x0.ref, vs x0.alt, .d (dStrs x0.args), .d (dStrs x0.frm), vi x0.num, vi x0.at_]), (1, .vec 9 1 14 fun i => [.str (lineW.getD i .empty)])], 2⟩) rfl trivial (fun h3 => ?_) (fun h3 => ?_) (fun _ => ?_)
  · have h3 : (0 : Int) < (x0.dst.size : Int) := of_decide_eq_true h3
    refine x.back rfl (by simp only [AllP]; show ((x0.dst.size + eqS.size : Nat) : Int) ≤ _; omega) ⟨(), ⟨⟨rfl, rfl⟩, rfl, ?_, trivial⟩, ⟨⟨rfl, rfl, rfl, rfl, rfl, veq0_d rfl, veq0_d rfl, rfl, rfl, trivial⟩, ⟨rfl, rfl, rfl, fun i hi => (by
      match i, hi with
      | 0, _ => rfl
      | 1, _ => rfl
      | 2, _ => rfl
      | 3, _ => rfl
      | 4, _ => rfl
      | 5, _ => rfl
      | 6, _ => rfl
      | 7, _ => rfl
      | 8, _ => rfl
      | 9, _ => rfl
      | 10, _ => rfl
      | 11, _ => rfl
      | 12, _ => rfl
      | 13, _ => rfl
      | n + 14, h => omega)⟩, trivial⟩, rfl⟩
    show x0.dst ++ eqS = out0 x0
    unfold out0; rw [if_pos (by omega)]
  · have h3 : ¬ (0 : Int) < (x0.dst.size : Int) := of_decide_eq_false h3
    refine x.back rfl trivial ⟨(), ⟨⟨rfl, rfl⟩, rfl, ?_, trivial⟩, ⟨⟨rfl, rfl, rfl, rfl, rfl, veq0_d rfl, veq0_d rfl, rfl, rfl, trivial⟩, ⟨rfl, rfl, rfl, fun i hi => (by
      match i, hi with
      | 0, _ => rfl
      | 1, _ => rfl
      | 2, _ => rfl
      | 3, _ => rfl
      | 4, _ => rfl
      | 5, _ => rfl
      | 6, _ => rfl
      | 7, _ => rfl
      | 8, _ => rfl
      | 9, _ => rfl
      | 10, _ => rfl
      | 11, _ => rfl
      | 12, _ => rfl
      | 13, _ => rfl
      | n + 14, h => omega)⟩, trivial⟩, rfl⟩
    show ByteArray.empty = out0 x0
    unfold out0; rw [if_neg (by omega)]
  have hz0 : (out0 x0).size + (lineW.getD x0.kind.toNat .empty).size = (out1 x0).size := by unfold out1; rw [app_size]
  refine x.cond rfl (by simp only [AllP]; omega) (fun h1 => ?_) (fun h1 => ?_)
  · have h1 : x0.kind = 1 := of_decide_eq_true h1
    rw [show out0 x0 ++ lineW.getD x0.kind.toNat .empty = out1 x0 from rfl]
    have hw := show_size hx.num
    refine x.pure rfl trivial rfl (ref_show_spec x0.num hx.num) ⟨rfl, trivial⟩ ?_
    refine x.exit rfl (by simp only [AllP]; omega) ?_
    exact ⟨.inr rfl, lk1 h1 (hons (n := 0) (r := false) (a := false) (by rw [h1]; rfl) (by omega)), trivial, rfl⟩
  have h1 : ¬ x0.kind = 1 := of_decide_eq_false h1
  rw [show out0 x0 ++ lineW.getD x0.kind.toNat .empty = out1 x0 from rfl]
  refine x.cond rfl trivial (fun h2 => ?_) (fun h2 => ?_)
  · have h2 : x0.kind = 2 := of_decide_eq_true h2
    have hl := right_len hr (n := 2) (by rw [h2]; rfl) (by omega) (by omega)
    have hon := opName_size x0.op
    refine x.quiet rfl trivial mixedP (by kernel_rfl) ?_
    refine x.qcall rfl trivial rfl (refopname_spec x0.op ho.1 ho.2) rfl rfl ⟨rfl, trivial⟩ ?_
    refine x.qdone rfl (by simp only [AllP, app_size, sz32, Int.toNat_zero, toN1]; omega) ?_
    refine x.exit rfl trivial ?_
    exact ⟨.inr rfl, lk2 h2 (hons (n := 2) (r := false) (a := false) (by rw [h2]; rfl) (by omega)), trivial, rfl⟩
  have h2 : ¬ x0.kind = 2 := of_decide_eq_false h2
  refine x.cond rfl trivial (fun h3 => ?_) (fun h3 => ?_)
  · have h3 : x0.kind = 3 := of_decide_eq_true h3
    have hp : RPhi x0 := by
      rcases right_cases hr with ⟨_, hp⟩ | ⟨n', d', r', a', e, hne, _⟩
      · exact hp
      · exact absurd h3 hne
    obtain ⟨hlen, _, _⟩ := hp.len
    have hj : ∀ i, i ≤ 64 → (joinB (phiN x0 i) commaS).size ≤ 64 * 196 := fun i hi => by
      have h1 := joinB_size commaS 194 (phiN x0 i) (phi_size hs _)
      rw [phiN_len] at h1
      exact Nat.le_trans h1 (Nat.mul_le_mul_right _ hi)
    refine x.loop (α := IW x0.frm.length) (fun y => ⟨[(1, .ptr 0 0), (4, vs (out1 x0 ++ joinB (phiN x0 y.i) commaS)), (5, vi (y.i : Int))], [(0, .box [.d (.int .u8 x0.kind), .d (.int .u8 x0.op), vs x0.dst, vs x0.ref, vs x0.alt, .d (dStrs x0.args), .d (dStrs x0.frm), vi x0.num, vi x0.at_])], 2⟩) (fun y => x0.frm.length - y.i) ⟨0, Nat.zero_le _⟩ rfl trivial ⟨⟨⟨rfl, rfl⟩, (app_nil' (out1 x0)).symm, rfl, trivial⟩, ⟨⟨rfl, rfl, rfl, rfl, rfl, veq0_d rfl, veq0_d rfl, rfl, rfl, trivial⟩, trivial⟩, rfl⟩ (fun y => ?_)
    obtain ⟨i, hi⟩ := y
    change Go C _ ⟨[(1, .ptr 0 0), (4, vs (out1 x0 ++ joinB (phiN x0 i) commaS)), (5, vi (i : Int))], [(0, .box [.d (.int .u8 x0.kind), .d (.int .u8 x0.op), vs x0.dst, vs x0.ref, vs x0.alt, .d (dStrs x0.args), .d (dStrs x0.frm), vi x0.num, vi x0.at_])], 2⟩ _
    have hji := hj i (by omega)
    have hc : commaS.size = 2 := rfl
    refine x.cond rfl trivial (fun h4 => ?_) (fun h4 => ?_)
    · have h4 : (i : Int) < (x0.frm.length : Int) := of_decide_eq_true h4
      have h4 : i < x0.frm.length := by omega
      have g1 := getD_small hs.frm i
      have g2 := getD_small hs.args i
      refine x.ite (α := Unit) (fun _ => ⟨[(1, .ptr 0 0), (4, vs (midP x0 i)), (5, vi (i : Int))], [(0, .box [.d (.int .u8 x0.kind), .d (.int .u8 x0.op), vs x0.dst, vs x0.ref, vs x0.alt, .d (dStrs x0.args), .d (dStrs x0.frm), vi x0.num, vi x0.at_])], 2⟩) rfl trivial (fun h5 => ?_) (fun h5 => ?_) (fun _ => ?_)
      · have h5 : (0 : Int) < (i : Int) := of_decide_eq_true h5
        refine x.back rfl (by simp only [AllP, app_size]; show (((out1 x0).size + (joinB (phiN x0 i) commaS).size + commaS.size : Nat) : Int) ≤ _; omega) ⟨(), ⟨⟨rfl, rfl⟩, ?_, rfl, trivial⟩, ⟨⟨rfl, rfl, rfl, rfl, rfl, veq0_d rfl, veq0_d rfl, rfl, rfl, trivial⟩, trivial⟩, rfl⟩
        show (out1 x0 ++ joinB (phiN x0 i) commaS) ++ commaS = midP x0 i
        unfold midP; rw [if_pos (by omega)]
      · have h5 : ¬ (0 : Int) < (i : Int) := of_decide_eq_false h5
        refine x.back rfl trivial ⟨(), ⟨⟨rfl, rfl⟩, ?_, rfl, trivial⟩, ⟨⟨rfl, rfl, rfl, rfl, rfl, veq0_d rfl, veq0_d rfl, rfl, rfl, trivial⟩, trivial⟩, rfl⟩
        show out1 x0 ++ joinB (phiN x0 i) commaS = midP x0 i
        unfold midP; rw [if_neg (by omega)]
      have hm : (midP x0 i).size ≤ 20000 := by
        unfold midP
        split
        · rw [app_size, app_size]; omega
        · rw [app_size]; omega
      refine x.quiet rfl trivial mixedP (by kernel_rfl) ?_
      refine x.qdone rfl (by simp only [AllP, app_size, sz58, Int.toNat_natCast]; omega) ?_
      refine x.back rfl (by simp only [AllP, inI64]; omega) ⟨⟨i + 1, by omega⟩, by show x0.frm.length - (i + 1) < x0.frm.length - i; omega, ⟨⟨rfl, rfl⟩, ?_, ?_, trivial⟩, ⟨⟨rfl, rfl, rfl, rfl, rfl, veq0_d rfl, veq0_d rfl, rfl, rfl, trivial⟩, trivial⟩, rfl⟩
      · show midP x0 i ++ ((x0.frm.getD ((i : Int).toNat) .empty ++ (⟨#[58, 32]⟩ : ByteArray)) ++ x0.args.getD ((i : Int).toNat) .empty) = out1 x0 ++ joinB (phiN x0 (i + 1)) commaS
        rw [Int.toNat_natCast]
        exact midP_next x0 i
      · show VEq0 (vi ((i : Int) + 1)) (vi ((i + 1 : Nat) : Int)); rw [Int.natCast_add]; rfl
    · have h4 : ¬ (i : Int) < (x0.frm.length : Int) := of_decide_eq_false h4
      obtain rfl : i = x0.frm.length := by omega
      refine x.exit rfl (by simp only [AllP, app_size, sz93]; omega) ?_
      exact ⟨.inr rfl, lk3 h3 hp.dst, trivial, rfl⟩
  have h3 : ¬ x0.kind = 3 := of_decide_eq_false h3
  have k459 : ∀ (hk : x0.kind = 4 ∨ x0.kind = 5 ∨ x0.kind = 9), ((out1 x0 ++ x0.ref) ++ (⟨#[32]⟩ : ByteArray)) ++ x0.args.getD 0 .empty = lineP x0 ∧ (x0.args.length : Int) = 1 := fun hk => by
    rcases hk with h | h | h
    · exact ⟨lk4 h (hons (n := 1) (r := true) (a := false) (by rw [h]; rfl) h3), right_len hr (n := 1) (by rw [h]; rfl) h3 (by omega)⟩
    · exact ⟨lk5 h (hons (n := 1) (r := true) (a := false) (by rw [h]; rfl) h3), right_len hr (n := 1) (by rw [h]; rfl) h3 (by omega)⟩
    · exact ⟨lk9 h (hoff (n := 1) (r := true) (a := false) (by rw [h]; rfl) h3), right_len hr (n := 1) (by rw [h]; rfl) h3 (by omega)⟩
  refine x.cond rfl trivial (fun h4 => ?_) (fun h4 => ?_)
  · have h4 : x0.kind = 4 := of_decide_eq_true h4
    refine x.cond rfl trivial (fun _ => ?_) (fun h => absurd h4 (of_decide_eq_false h))
    obtain ⟨e1, e2⟩ := k459 (.inl h4)
    refine x.quiet rfl trivial mixedP (by kernel_rfl) ?_
    refine x.qdone rfl (by simp only [AllP, app_size, sz32, Int.toNat_zero, toN1]; omega) ?_
    refine x.exit rfl trivial ?_
    exact ⟨.inr rfl, e1, trivial, rfl⟩
  have h4 : ¬ x0.kind = 4 := of_decide_eq_false h4
  refine x.cond rfl trivial (fun h5 => ?_) (fun h5 => ?_)
  · have h5 : x0.kind = 5 := of_decide_eq_true h5
    refine x.cond rfl trivial (fun _ => ?_) (fun h => absurd h5 (of_decide_eq_false h))
    obtain ⟨e1, e2⟩ := k459 (.inr (.inl h5))
    refine x.quiet rfl trivial mixedP (by kernel_rfl) ?_
    refine x.qdone rfl (by simp only [AllP, app_size, sz32, Int.toNat_zero, toN1]; omega) ?_
    refine x.exit rfl trivial ?_
    exact ⟨.inr rfl, e1, trivial, rfl⟩
  have h5 : ¬ x0.kind = 5 := of_decide_eq_false h5
  refine x.cond rfl trivial (fun h9 => ?_) (fun h9 => ?_)
  · have h9 : x0.kind = 9 := of_decide_eq_true h9
    obtain ⟨e1, e2⟩ := k459 (.inr (.inr h9))
    refine x.quiet rfl trivial mixedP (by kernel_rfl) ?_
    refine x.qdone rfl (by simp only [AllP, app_size, sz32, Int.toNat_zero, toN1]; omega) ?_
    refine x.exit rfl trivial ?_
    exact ⟨.inr rfl, e1, trivial, rfl⟩
  have h9 : ¬ x0.kind = 9 := of_decide_eq_false h9
  refine x.cond rfl trivial (fun h6 => ?_) (fun h6 => ?_)
  · have h6 : x0.kind = 6 := of_decide_eq_true h6
    have hl := right_len hr (n := 2) (by rw [h6]; rfl) (by omega) (by omega)
    refine x.quiet rfl trivial mixedP (by kernel_rfl) ?_
    refine x.qdone rfl (by simp only [AllP, app_size, sz32, Int.toNat_zero, toN1]; omega) ?_
    refine x.exit rfl trivial ?_
    exact ⟨.inr rfl, lk6 h6 (hoff (n := 2) (r := true) (a := false) (by rw [h6]; rfl) h3), trivial, rfl⟩
  have h6 : ¬ x0.kind = 6 := of_decide_eq_false h6
  refine x.cond rfl trivial (fun h7 => ?_) (fun h7 => ?_)
  · have h7 : x0.kind = 7 := of_decide_eq_true h7
    have hj := joinB_size commaS 96 x0.args hs.args
    have hj2 : (joinB x0.args commaS).size ≤ 64 * 98 := Nat.le_trans hj (Nat.mul_le_mul_right _ hs.alen)
    refine x.quiet rfl trivial mixedP (by kernel_rfl) ?_
    refine x.qcall rfl (by simp only [AllP, app_size, sz40]; omega) rfl (joined_spec x0.args hs.alen hs.args) rfl rfl ⟨veq_d rfl, trivial⟩ ?_
    refine x.qdone rfl (by simp only [AllP, app_size, sz40, sz41]; omega) ?_
    refine x.exit rfl trivial ?_
    exact ⟨.inr rfl, lk7 h7 (hons (n := -1) (r := true) (a := false) (by rw [h7]; rfl) h3), trivial, rfl⟩
  have h7 : ¬ x0.kind = 7 := of_decide_eq_false h7
  refine x.cond rfl trivial (fun h10 => ?_) (fun h10 => ?_)
  · have h10 : x0.kind = 10 := of_decide_eq_true h10
    have hl := right_len hr (n := 1) (by rw [h10]; rfl) (by omega) (by omega)
    refine x.quiet rfl trivial mixedP (by kernel_rfl) ?_
    refine x.qdone rfl (by simp only [AllP, app_size, sz32, Int.toNat_zero, toN1]; omega) ?_
    refine x.exit rfl trivial ?_
    exact ⟨.inr rfl, lk10 h10 (hons (n := 1) (r := true) (a := false) (by rw [h10]; rfl) h3), trivial, rfl⟩
  have h10 : ¬ x0.kind = 10 := of_decide_eq_false h10
  refine x.cond rfl trivial (fun h12 => ?_) (fun h12 => ?_)
  · have h12 : x0.kind = 12 := of_decide_eq_true h12
    have hl := right_len hr (n := 1) (by rw [h12]; rfl) (by omega) (by omega)
    refine x.quiet rfl trivial mixedP (by kernel_rfl) ?_
    refine x.qdone rfl (by simp only [AllP, app_size, sz32, Int.toNat_zero, toN1]; omega) ?_
    refine x.exit rfl trivial ?_
    exact ⟨.inr rfl, lk12 h12 (hoff (n := 1) (r := true) (a := true) (by rw [h12]; rfl) h3), trivial, rfl⟩
  have h12 : ¬ x0.kind = 12 := of_decide_eq_false h12
  refine x.cond rfl trivial (fun h13 => ?_) (fun h13 => ?_)
  · have h13 : x0.kind = 13 := of_decide_eq_true h13
    have hl := right_len hr (n := 1) (by rw [h13]; rfl) (by omega) (by omega)
    refine x.exit rfl (by simp only [AllP, Int.toNat_zero]; omega) ?_
    exact ⟨.inr rfl, lk13 h13 (hoff (n := 1) (r := false) (a := false) (by rw [h13]; rfl) h3), trivial, rfl⟩
  have h13 : ¬ x0.kind = 13 := of_decide_eq_false h13
  refine x.exit rfl (by simp only [AllP]; omega) ?_
  refine ⟨.inr rfl, ?_, trivial, rfl⟩
  show out1 x0 ++ x0.ref = lineP x0
  rcases (show x0.kind = 8 ∨ x0.kind = 11 by omega) with h | h
  · exact lk8 h (hons (n := 0) (r := true) (a := false) (by rw [h]; rfl) h3)
  · exact lk11 h (hoff (n := 0) (r := true) (a := false) (by rw [h]; rfl) h3)
end Go.Proofs.YteeofakohenpoaaGreatDoor

/- What is handed in fits. -/
namespace Go.Proofs.YteeofakohenpoaaGreatDoor
open Go.Sx
set_option linter.unusedVariables false
set_option linter.unusedSimpArgs false

theorem ins_fit {x : Ins} (h : InsOK x) : FitI x := by
  obtain ⟨h1, h2, h3, h4, h5, ⟨h6, h6'⟩, ⟨h7, h7'⟩, h8, h9⟩ := h
  have hr := reachBytes_lt
  have hb : ∀ n : Int, wfB n → 0 ≤ n ∧ n < 256 := fun n hn => by
    unfold wfB at hn
    simp only [Lit.wf, Bool.and_eq_true, decide_eq_true_eq, IntKind.min_u8, IntKind.max_u8] at hn
    omega
  refine ⟨hb _ h1, hb _ h2, h3, h4, h5, by unfold bigN; omega, by unfold bigN; omega, h6', h7', ?_⟩
  have := Sx.wf_i64 h8
  exact this
theorem lens_fit {x : Ins} (h : InsOK x) : x.args.length * 16 ≤ okL ∧ x.frm.length * 16 ≤ okL := by
  have hr := reachBytes_lt
  have h1 := h.args.1
  have h2 := h.frm.1
  unfold okL
  omega
end Go.Proofs.YteeofakohenpoaaGreatDoor

/- The law on lines. -/
namespace Go.Proofs.YteeofakohenpoaaGreatDoor
open Go.Sx
set_option linter.unusedVariables false
set_option linter.unusedSimpArgs false
set_option maxRecDepth 100000

theorem app_str0 (l : List ByteArray) (i : Nat) : app 0 (tab (List.replicate 0 [D.str .empty])) (fun i => [D.str (l.getD i .empty)]) i = [D.str (l.getD i .empty)] := by
  show (if i < 0 then [] else [D.str (l.getD (i - 0) .empty)]) = _
  rw [if_neg (by omega)]; rfl
set_option maxHeartbeats 2000000 in
theorem lines_spec (x0 : Ins) (hx : FitI x0) (h6 : x0.args.length * 16 ≤ okL) (h7 : x0.frm.length * 16 ≤ okL) : Pure PG 4 [insV x0] (vb true) [] := by
  refine Proc.mk (cfg 45) tysOK [] Tryz.func4 rfl (by kernel_rfl) rfl rfl rfl ?_
  intro C x
  unfold okL at h6 h7
  refine x.op rfl ?_ ?_
  · simp only [AllP, big]
    omega
  refine Sx.Go.freeze 2 ?_
  refine Sx.Go.freeze 3 ?_
  refine x.pure rfl trivial rfl (lineFn_spec x0 hx) ⟨⟨rfl, rfl, rfl, rfl, rfl, ?_, ?_, rfl, rfl, trivial⟩, trivial⟩ ?_
  · exact ⟨Nat.zero_add _, fun _ => rfl, fun i hi => app_str0 _ i⟩
  · exact ⟨Nat.zero_add _, fun _ => rfl, fun i hi => app_str0 _ i⟩
  refine x.pure rfl trivial rfl (rightinstr_spec x0 hx) ⟨⟨rfl, rfl, rfl, rfl, rfl, veq0_d rfl, veq0_d rfl, rfl, rfl, trivial⟩, trivial⟩ ?_
  unfold lineR
  refine x.cond rfl trivial (fun h => ?_) (fun h => ?_)
  · have h : (!rightI x0) = true := h
    rw [if_neg (by simpa using h)]
    refine x.pureG rfl trivial rfl (fun _ => awake8_spec) rfl trivial ?_
    refine x.exit rfl trivial ?_
    refine ⟨.inr rfl, ?_, trivial, rfl⟩
    show (decide ((1 : Int) = 1) && decide (ByteArray.empty.data.toList = ([] : List UInt8)) && true) = true
    rfl
  · have h : (!rightI x0) = false := h
    have h : rightI x0 = true := by simpa using h
    rw [if_pos h]
    refine x.pureG rfl trivial rfl (fun _ => refline_spec x0 hx h) rfl ⟨⟨rfl, rfl, rfl, rfl, rfl, veq0_d rfl, veq0_d rfl, rfl, rfl, trivial⟩, trivial⟩ ?_
    refine x.pureG rfl trivial rfl (fun _ => awake8_spec) rfl trivial ?_
    refine x.exit rfl trivial ?_
    refine ⟨.inr rfl, ?_, trivial, rfl⟩
    show (decide ((0 : Int) = 0) && decide ((lineP x0).data.toList = (lineP x0).data.toList) && true) = true
    simp
end Go.Proofs.YteeofakohenpoaaGreatDoor
