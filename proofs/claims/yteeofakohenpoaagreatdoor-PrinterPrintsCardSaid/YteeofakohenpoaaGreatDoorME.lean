/- Texts put together: T18B, T18D, T18E, T08L, T08I, T08N, T18F. -/
import Derived.Test.YteeofakohenpoaaGreatDoorMD
import Derived.Test.YteeofakohenpoaaGreatDoorSxG
import Derived.Test.YteeofakohenpoaaGreatDoorMC

/- The answer's line of an instruction. -/
namespace Go.Proofs.YteeofakohenpoaaGreatDoor
open Go.Sx
set_option linter.unusedVariables false
set_option linter.unusedSimpArgs false
set_option maxRecDepth 100000

theorem okN_pos {s : ByteArray} (h : okN s = true) : 0 < s.size := by
  unfold okN at h
  simp only [Bool.and_eq_true] at h
  have hn : nameW s s.size 0 0 = true := h.1
  rcases Nat.eq_zero_or_pos s.size with h0 | h0
  · rw [h0] at hn; exact absurd hn (by rw [nameW]; decide)
  · exact h0
theorem refopname_spec (o : Int) (h0 : 0 ≤ o) (h1 : o < 13) : Pure PG 32 [.d (.int .u8 o)] (vs (opName o)) [] := by
  refine Proc.mk (cfg 14) tysOK [] Tryz.func32 rfl (by kernel_rfl) rfl rfl rfl ?_
  intro C x
  have hop : opName o = opAt o.toNat := by unfold opName; rw [if_neg (by omega)]
  refine x.cond rfl trivial (fun h => ?_) (fun h => ?_)
  · have h : (decide (o < 1) || decide (12 < o)) = true := h
    simp only [Bool.or_eq_true, decide_eq_true_eq] at h
    refine x.exit rfl trivial ?_
    rw [hop, show o.toNat = 0 by omega]
    exact ⟨.inr rfl, rfl, trivial, rfl⟩
  · have h : (decide (o < 1) || decide (12 < o)) = false := h
    simp only [Bool.or_eq_false_iff, decide_eq_false_iff_not] at h
    refine x.call [] rfl trivial rfl refopnames_spec rfl trivial trivial ?_
    have hw : IntKind.u8.wrap (o - 1) = o - 1 := by rw [IntKind.wrap_u8]; omega
    refine x.exit rfl (by simp only [AllP]; omega) ?_
    refine ⟨.inr rfl, ?_, trivial, rfl⟩
    show opAt ((IntKind.u8.wrap (o - 1)).toNat + 1) = opName o
    rw [hw, hop, show (o - 1).toNat + 1 = o.toNat by omega]
/-! ### texts joined -/
def midJ (l : List ByteArray) (i : Nat) : ByteArray := if 0 < i then joinB (l.take i) commaS ++ commaS else joinB (l.take i) commaS
theorem midJ_next {l : List ByteArray} {i : Nat} (h : i < l.length) : midJ l i ++ l.getD i .empty = joinB (l.take (i + 1)) commaS := by
  rw [List.take_succ_eq_append_getElem h, List.getD_eq_getElem?_getD, List.getElem?_eq_getElem h]
  unfold midJ
  by_cases hi : 0 < i
  · rw [if_pos hi, joinB_snoc _ _ _ (fun e => by have := congrArg List.length e; rw [List.length_take] at this; simp only [List.length_nil] at this; omega)]
    exact joinB_one.ba_inj8 (by simp only [app_data, List.append_assoc]; rfl)
  · obtain rfl : i = 0 := by omega
    rw [if_neg hi, List.take_zero, joinB_nil, List.nil_append, joinB_one]
    exact joinB_one.ba_inj8 (by rw [app_data]; rfl)
theorem take_joined {l : List ByteArray} {k : Nat} (h : ∀ a, a ∈ l → a.size ≤ k) (i : Nat) : (joinB (l.take i) commaS).size ≤ l.length * (k + 2) := by
  have h1 := joinB_size commaS k (l.take i) fun a ha => h a (List.mem_of_mem_take ha)
  have h2 : (l.take i).length * (k + commaS.size) ≤ l.length * (k + 2) := Nat.mul_le_mul_right _ (by rw [List.length_take]; omega)
  omega
theorem joined_spec (l : List ByteArray) (hl : l.length ≤ 64) (hs : ∀ a, a ∈ l → a.size ≤ 96) : Pure PG 23 [.d (dStrs l)] (vs (joinB l commaS)) [] := by
  refine Proc.mk (cfg 22) tysOK [] Tryz.func23 rfl (by kernel_rfl) rfl rfl rfl ?_
  intro C x
  refine x.loop (α := IW l.length) (fun y => ⟨[(0, .d (dStrs l)), (3, vs (joinB (l.take y.i) commaS)), (4, vi (y.i : Int))], [], 0⟩) (fun y => l.length - y.i) ⟨0, Nat.zero_le _⟩ rfl trivial ⟨⟨veq_d rfl, rfl, rfl, trivial⟩, trivial, rfl⟩ (fun y => ?_)
  obtain ⟨i, hi⟩ := y
  change Go C _ ⟨[(0, .d (dStrs l)), (3, vs (joinB (l.take i) commaS)), (4, vi (i : Int))], [], 0⟩ _
  have hz := take_joined hs i
  have hz2 : l.length * (96 + 2) ≤ 64 * 98 := Nat.mul_le_mul_right _ hl
  have hc : commaS.size = 2 := rfl
  refine x.cond rfl trivial (fun h2 => ?_) (fun h2 => ?_)
  · have h2 : (i : Int) < (l.length : Int) := of_decide_eq_true h2
    have h2 : i < l.length := by omega
    have hg := getD_small hs i
    refine x.ite (α := Unit) (fun _ => ⟨[(0, .d (dStrs l)), (3, vs (midJ l i)), (4, vi (i : Int))], [], 0⟩) rfl trivial (fun h3 => ?_) (fun h3 => ?_) (fun _ => ?_)
    · have h3 : (0 : Int) < (i : Int) := of_decide_eq_true h3
      refine x.back rfl (by simp only [AllP]; show (((joinB (l.take i) commaS).size + commaS.size : Nat) : Int) ≤ _; omega) ⟨(), ⟨veq_d rfl, ?_, rfl, trivial⟩, trivial, rfl⟩
      show joinB (l.take i) commaS ++ commaS = midJ l i
      unfold midJ; rw [if_pos (by omega)]
    · have h3 : ¬ (0 : Int) < (i : Int) := of_decide_eq_false h3
      refine x.back rfl trivial ⟨(), ⟨veq_d rfl, ?_, rfl, trivial⟩, trivial, rfl⟩
      show joinB (l.take i) commaS = midJ l i
      unfold midJ; rw [if_neg (by omega)]
    have hm : (midJ l i).size ≤ 6400 := by
      unfold midJ
      split
      · rw [app_size]; omega
      · omega
    refine x.back rfl (by simp only [AllP, Int.toNat_natCast, inI64]; omega) ⟨⟨i + 1, by omega⟩, by show l.length - (i + 1) < l.length - i; omega, ⟨veq_d rfl, ?_, ?_, trivial⟩, trivial, rfl⟩
    · show midJ l i ++ l.getD ((i : Int).toNat) .empty = joinB (l.take (i + 1)) commaS
      rw [Int.toNat_natCast]
      exact midJ_next h2
    · show VEq0 (vi ((i : Int) + 1)) (vi ((i + 1 : Nat) : Int)); rw [Int.natCast_add]; rfl
  · have h2 : ¬ (i : Int) < (l.length : Int) := of_decide_eq_false h2
    obtain rfl : i = l.length := by omega
    refine x.exit rfl trivial ?_
    rw [List.take_length]
    exact ⟨.inr rfl, rfl, trivial, rfl⟩
/-! ### lines -/
def lineW : List ByteArray := [.empty, ⟨#[99, 111, 110, 115, 116, 32]⟩, .empty, ⟨#[112, 104, 105, 32, 91]⟩, ⟨#[108, 111, 97, 100, 32]⟩, ⟨#[119, 114, 97, 112, 32]⟩, ⟨#[115, 116, 111, 114, 101, 32]⟩, ⟨#[99, 97, 108, 108, 32]⟩, ⟨#[105, 110, 112, 117, 116, 32]⟩, ⟨#[111, 117, 116, 112, 117, 116, 32]⟩, ⟨#[114, 101, 108, 101, 97, 115, 101, 32]⟩, ⟨#[106, 117, 109, 112, 32]⟩, ⟨#[98, 114, 97, 110, 99, 104, 32]⟩, ⟨#[114, 101, 116, 117, 114, 110, 32]⟩]
abbrev eqS : ByteArray := ⟨#[32, 61, 32]⟩
def out0 (x : Ins) : ByteArray := if 0 < x.dst.size then x.dst ++ eqS else .empty
def out1 (x : Ins) : ByteArray := out0 x ++ lineW.getD x.kind.toNat .empty
theorem words_small : ∀ i, (lineW.getD i .empty).size ≤ 8 := by
  have h : ∀ a, a ∈ lineW → a.size ≤ 8 := by decide +kernel
  exact fun i => getD_small h i
theorem out1_size {x : Ins} (h : SmallN x) : (out1 x).size ≤ 110 := by
  have h1 := words_small x.kind.toNat
  have h2 := h.dst
  have h3 : eqS.size = 3 := rfl
  unfold out1 out0
  rw [app_size]
  split
  · rw [app_size]; omega
  · show 0 + _ ≤ _; omega
theorem out0_on {x : Ins} (h : okN x.dst = true) : out0 x = x.dst ++ eqS := by unfold out0; rw [if_pos (okN_pos h)]
theorem out0_off {x : Ins} (h : x.dst = .empty) : out0 x = .empty := by unfold out0; rw [h]; rfl
theorem right_in {x : Ins} (h : rightI x = true) (h3 : x.kind ≠ 3) {n : Int} {d r a : Bool} (hs : shapeV x.kind = some (n, d, r, a)) : RIn x n d r a := by
  rcases right_cases h with ⟨h1, _⟩ | ⟨n', d', r', a', e, _, hi, _⟩
  · exact absurd h1 h3
  · rw [hs] at e
    obtain ⟨rfl, rfl, rfl, rfl⟩ : n = n' ∧ d = d' ∧ r = r' ∧ a = a' := by simpa using e
    exact hi
theorem nil_app (b : ByteArray) : ByteArray.empty ++ b = b := joinB_one.ba_inj8 (by rw [app_data]; rfl)
def midP (x : Ins) (i : Nat) : ByteArray := if 0 < i then (out1 x ++ joinB (phiN x i) commaS) ++ commaS else out1 x ++ joinB (phiN x i) commaS
theorem midP_next (x : Ins) (i : Nat) : midP x i ++ ((x.frm.getD i .empty ++ (⟨#[58, 32]⟩ : ByteArray)) ++ x.args.getD i .empty) = out1 x ++ joinB (phiN x (i + 1)) commaS := by
  rw [phiN_succ]
  unfold midP
  by_cases hi : 0 < i
  · rw [if_pos hi, joinB_snoc _ _ _ (fun e => by have := congrArg List.length e; rw [phiN_len] at this; simp at this; omega)]
    exact joinB_one.ba_inj8 (by simp only [app_data, List.append_assoc])
  · obtain rfl : i = 0 := by omega
    rw [if_neg hi, show phiN x 0 = [] from rfl, joinB_nil, List.nil_append, joinB_one]
    exact joinB_one.ba_inj8 (by simp only [app_data, List.append_assoc]; rfl)
theorem toN1 : Int.toNat 1 = 1 := rfl
theorem sz32 : (⟨#[32]⟩ : ByteArray).size = 1 := rfl
theorem lk1 {x : Ins} (hk : x.kind = 1) (hd : okN x.dst = true) : out1 x ++ showV x.num = lineP x := by
  have e : lineP x = joinB [x.dst, ⟨#[61]⟩, joinB [⟨#[99, 111, 110, 115, 116]⟩, showV x.num] spS] spS := by unfold lineP valueP; rw [hk]; rfl
  rw [e, out1, out0_on hd, hk, join3, join2]
  exact joinB_one.ba_inj8 (by simp only [app_data, List.append_assoc]; rfl)
theorem lk2 {x : Ins} (hk : x.kind = 2) (hd : okN x.dst = true) : ((((out1 x ++ opName x.op) ++ (⟨#[32]⟩ : ByteArray)) ++ x.args.getD 0 .empty) ++ (⟨#[32]⟩ : ByteArray)) ++ x.args.getD 1 .empty = lineP x := by
  have e : lineP x = joinB [x.dst, ⟨#[61]⟩, joinB [opName x.op, x.args.getD 0 .empty, x.args.getD 1 .empty] spS] spS := by unfold lineP valueP; rw [hk]; rfl
  rw [e, out1, out0_on hd, hk, join3, join3]
  exact joinB_one.ba_inj8 (by simp only [app_data, List.append_assoc]; rfl)
theorem lk3 {x : Ins} (hk : x.kind = 3) (hd : okN x.dst = true) : (out1 x ++ joinB (phiN x x.frm.length) commaS) ++ (⟨#[93]⟩ : ByteArray) = lineP x := by
  have e : lineP x = joinB [x.dst, ⟨#[61]⟩, ((⟨#[112, 104, 105, 32, 91]⟩ : ByteArray) ++ joinB (phiN x x.frm.length) commaS) ++ (⟨#[93]⟩ : ByteArray)] spS := by unfold lineP valueP; rw [hk]; rfl
  rw [e, out1, out0_on hd, hk, join3]
  exact joinB_one.ba_inj8 (by simp only [app_data, List.append_assoc]; rfl)
theorem lk4 {x : Ins} (hk : x.kind = 4) (hd : okN x.dst = true) : ((out1 x ++ x.ref) ++ (⟨#[32]⟩ : ByteArray)) ++ x.args.getD 0 .empty = lineP x := by
  have e : lineP x = joinB [x.dst, ⟨#[61]⟩, joinB [⟨#[108, 111, 97, 100]⟩, x.ref, x.args.getD 0 .empty] spS] spS := by unfold lineP valueP; rw [hk]; rfl
  rw [e, out1, out0_on hd, hk, join3, join3]
  exact joinB_one.ba_inj8 (by simp only [app_data, List.append_assoc]; rfl)
theorem lk5 {x : Ins} (hk : x.kind = 5) (hd : okN x.dst = true) : ((out1 x ++ x.ref) ++ (⟨#[32]⟩ : ByteArray)) ++ x.args.getD 0 .empty = lineP x := by
  have e : lineP x = joinB [x.dst, ⟨#[61]⟩, joinB [⟨#[119, 114, 97, 112]⟩, x.ref, x.args.getD 0 .empty] spS] spS := by unfold lineP valueP; rw [hk]; rfl
  rw [e, out1, out0_on hd, hk, join3, join3]
  exact joinB_one.ba_inj8 (by simp only [app_data, List.append_assoc]; rfl)
theorem lk6 {x : Ins} (hk : x.kind = 6) (hd : x.dst = .empty) : ((((out1 x ++ x.ref) ++ (⟨#[32]⟩ : ByteArray)) ++ x.args.getD 0 .empty) ++ (⟨#[32]⟩ : ByteArray)) ++ x.args.getD 1 .empty = lineP x := by
  have e : lineP x = joinB [⟨#[115, 116, 111, 114, 101]⟩, x.ref, x.args.getD 0 .empty, x.args.getD 1 .empty] spS := by unfold lineP; rw [hk]; rfl
  rw [e, out1, out0_off hd, hk, join4]
  exact joinB_one.ba_inj8 (by simp only [app_data, List.append_assoc]; rfl)
theorem lk7 {x : Ins} (hk : x.kind = 7) (hd : okN x.dst = true) : (((out1 x ++ x.ref) ++ (⟨#[40]⟩ : ByteArray)) ++ joinB x.args commaS) ++ (⟨#[41]⟩ : ByteArray) = lineP x := by
  have e : lineP x = joinB [x.dst, ⟨#[61]⟩, joinB [⟨#[99, 97, 108, 108]⟩, ((x.ref ++ (⟨#[40]⟩ : ByteArray)) ++ joinB x.args commaS) ++ (⟨#[41]⟩ : ByteArray)] spS] spS := by unfold lineP valueP; rw [hk]; rfl
  rw [e, out1, out0_on hd, hk, join3, join2]
  exact joinB_one.ba_inj8 (by simp only [app_data, List.append_assoc]; rfl)
theorem lk8 {x : Ins} (hk : x.kind = 8) (hd : okN x.dst = true) : out1 x ++ x.ref = lineP x := by
  have e : lineP x = joinB [x.dst, ⟨#[61]⟩, joinB [⟨#[105, 110, 112, 117, 116]⟩, x.ref] spS] spS := by unfold lineP valueP; rw [hk]; rfl
  rw [e, out1, out0_on hd, hk, join3, join2]
  exact joinB_one.ba_inj8 (by simp only [app_data, List.append_assoc]; rfl)
theorem lk9 {x : Ins} (hk : x.kind = 9) (hd : x.dst = .empty) : ((out1 x ++ x.ref) ++ (⟨#[32]⟩ : ByteArray)) ++ x.args.getD 0 .empty = lineP x := by
  have e : lineP x = joinB [⟨#[111, 117, 116, 112, 117, 116]⟩, x.ref, x.args.getD 0 .empty] spS := by unfold lineP; rw [hk]; rfl
  rw [e, out1, out0_off hd, hk, join3]
  exact joinB_one.ba_inj8 (by simp only [app_data, List.append_assoc]; rfl)
theorem lk10 {x : Ins} (hk : x.kind = 10) (hd : okN x.dst = true) : ((out1 x ++ x.args.getD 0 .empty) ++ (⟨#[32]⟩ : ByteArray)) ++ x.ref = lineP x := by
  have e : lineP x = joinB [x.dst, ⟨#[61]⟩, joinB [⟨#[114, 101, 108, 101, 97, 115, 101]⟩, x.args.getD 0 .empty, x.ref] spS] spS := by unfold lineP valueP; rw [hk]; rfl
  rw [e, out1, out0_on hd, hk, join3, join3]
  exact joinB_one.ba_inj8 (by simp only [app_data, List.append_assoc]; rfl)
theorem lk11 {x : Ins} (hk : x.kind = 11) (hd : x.dst = .empty) : out1 x ++ x.ref = lineP x := by
  have e : lineP x = joinB [⟨#[106, 117, 109, 112]⟩, x.ref] spS := by unfold lineP; rw [hk]; rfl
  rw [e, out1, out0_off hd, hk, join2]
  exact joinB_one.ba_inj8 (by simp only [app_data, List.append_assoc]; rfl)
theorem lk12 {x : Ins} (hk : x.kind = 12) (hd : x.dst = .empty) : ((((out1 x ++ x.args.getD 0 .empty) ++ (⟨#[32]⟩ : ByteArray)) ++ x.ref) ++ (⟨#[32]⟩ : ByteArray)) ++ x.alt = lineP x := by
  have e : lineP x = joinB [⟨#[98, 114, 97, 110, 99, 104]⟩, x.args.getD 0 .empty, x.ref, x.alt] spS := by unfold lineP; rw [hk]; rfl
  rw [e, out1, out0_off hd, hk, join4]
  exact joinB_one.ba_inj8 (by simp only [app_data, List.append_assoc]; rfl)
theorem lk13 {x : Ins} (hk : x.kind = 13) (hd : x.dst = .empty) : out1 x ++ x.args.getD 0 .empty = lineP x := by
  have e : lineP x = joinB [⟨#[114, 101, 116, 117, 114, 110]⟩, x.args.getD 0 .empty] spS := by unfold lineP; rw [hk]; rfl
  rw [e, out1, out0_off hd, hk, join2]
  exact joinB_one.ba_inj8 (by simp only [app_data, List.append_assoc]; rfl)
theorem app_nil' (a : ByteArray) : a ++ joinB [] commaS = a := joinB_one.ba_inj8 (by rw [joinB_nil, app_data]; simp)
set_option maxHeartbeats 8000000 in
theorem refline_spec (x0 : Ins) (hx : FitI x0) (hr : rightI x0 = true) : Pure PG 13 [insV x0] (vs (lineP x0)) [] := by
  refine Proc.mk (cfg 162) tysOK [] Tryz.func13 rfl (by kernel_rfl) rfl rfl rfl ?_
  intro C x
  have hs := right_small hr
  have hk := right_kind hr
  have ho := right_op hr
  have hz := out1_size hs
  have hal := hs.alen
  have hfl := hs.flen
  have hd := hs.dst
  have hrf := hs.ref
  have hat := hs.alt
  have ha0 := getD_small hs.args 0
  have ha1 := getD_small hs.args 1
  have ke : eqS.size = 3 := rfl
  have hons : ∀ {n : Int} {r a : Bool}, shapeV x0.kind = some (n, true, r, a) → x0.kind ≠ 3 → okN x0.dst = true := fun h h3 => fits_on (right_in hr h3 h).dst
  have hoff : ∀ {n : Int} {r a : Bool}, shapeV x0.kind = some (n, false, r, a) → x0.kind ≠ 3 → x0.dst = .empty := fun h h3 => fits_off (right_in hr h3 h).dst
  refine x.ite (α := Unit) (fun _ => ⟨[(1, .ptr 0 0), (3, .own 1), (4, vs (out0 x0))], [(0, .box [.d (.int .u8 x0.kind), .d (.int .u8 x0.op), vs x0.dst, vs x0.ref, vs x0.alt, .d (dStrs x0.args), .d (dStrs x0.frm), vi x0.num, vi x0.at_]), (1, .vec 9 1 14 fun i => [.str (lineW.getD i .empty)])], 2⟩) rfl trivial (fun h3 => ?_) (fun h3 => ?_) (fun _ => ?_)
  · have h3 : (0 : Int) < (x0.dst.size : Int) := of_decide_eq_true h3
    refine x.back rfl (by simp only [AllP]; show ((x0.dst.size + eqS.size : Nat) : Int) ≤ _; omega) ⟨(), ⟨⟨rfl, rfl⟩, rfl, ?_, trivial⟩, ⟨⟨rfl, rfl, rfl, rfl, rfl, veq0_d rfl, veq0_d rfl, rfl, rfl, trivial⟩, ⟨rfl, rfl, rfl, fun i hi => (by
      match i, hi with
      | 0, _ => rfl
      | 1, _ => rfl
      | 2, _ => rfl
      | 3, _ => rfl
      | 4, _ => rfl
      | 5, _ => rfl
      | 6, _ => rfl
      | 7, _ => rfl
      | 8, _ => rfl
      | 9, _ => rfl
      | 10, _ => rfl
      | 11, _ => rfl
      | 12, _ => rfl
      | 13, _ => rfl
      | n + 14, h => omega)⟩, trivial⟩, rfl⟩
    show x0.dst ++ eqS = out0 x0
    unfold out0; rw [if_pos (by omega)]
  · have h3 : ¬ (0 : Int) < (x0.dst.size : Int) := of_decide_eq_false h3
    refine x.back rfl trivial ⟨(), ⟨⟨rfl, rfl⟩, rfl, ?_, trivial⟩, ⟨⟨rfl, rfl, rfl, rfl, rfl, veq0_d rfl, veq0_d rfl, rfl, rfl, trivial⟩, ⟨rfl, rfl, rfl, fun i hi => (by
      match i, hi with
      | 0, _ => rfl
      | 1, _ => rfl
      | 2, _ => rfl
      | 3, _ => rfl
      | 4, _ => rfl
      | 5, _ => rfl
      | 6, _ => rfl
      | 7, _ => rfl
      | 8, _ => rfl
      | 9, _ => rfl
      | 10, _ => rfl
      | 11, _ => rfl
      | 12, _ => rfl
      | 13, _ => rfl
      | n + 14, h => omega)⟩, trivial⟩, rfl⟩
    show ByteArray.empty = out0 x0
    unfold out0; rw [if_neg (by omega)]
  have hz0 : (out0 x0).size + (lineW.getD x0.kind.toNat .empty).size = (out1 x0).size := by unfold out1; rw [app_size]
  refine x.cond rfl (by simp only [AllP]; omega) (fun h1 => ?_) (fun h1 => ?_)
  · have h1 : x0.kind = 1 := of_decide_eq_true h1
    rw [show out0 x0 ++ lineW.getD x0.kind.toNat .empty = out1 x0 from rfl]
    have hw := show_size hx.num
    refine x.pure rfl trivial rfl (ref_show_spec x0.num hx.num) ⟨rfl, trivial⟩ ?_
    refine x.exit rfl (by simp only [AllP]; omega) ?_
    exact ⟨.inr rfl, lk1 h1 (hons (n := 0) (r := false) (a := false) (by rw [h1]; rfl) (by omega)), trivial, rfl⟩
  have h1 : ¬ x0.kind = 1 := of_decide_eq_false h1
  rw [show out0 x0 ++ lineW.getD x0.kind.toNat .empty = out1 x0 from rfl]
  refine x.cond rfl trivial (fun h2 => ?_) (fun h2 => ?_)
  · have h2 : x0.kind = 2 := of_decide_eq_true h2
    have hl := right_len hr (n := 2) (by rw [h2]; rfl) (by omega) (by omega)
    have hon := opName_size x0.op
    refine x.quiet rfl trivial mixedP (by kernel_rfl) ?_
    refine x.qcall rfl trivial rfl (refopname_spec x0.op ho.1 ho.2) rfl rfl ⟨rfl, trivial⟩ ?_
    refine x.qdone rfl (by simp only [AllP, app_size, sz32, Int.toNat_zero, toN1]; omega) ?_
    refine x.exit rfl trivial ?_
    exact ⟨.inr rfl, lk2 h2 (hons (n := 2) (r := false) (a := false) (by rw [h2]; rfl) (by omega)), trivial, rfl⟩
  have h2 : ¬ x0.kind = 2 := of_decide_eq_false h2
  refine x.cond rfl trivial (fun h3 => ?_) (fun h3 => ?_)
  · have h3 : x0.kind = 3 := of_decide_eq_true h3
    have hp : RPhi x0 := by
      rcases right_cases hr with ⟨_, hp⟩ | ⟨n', d', r', a', e, hne, _⟩
      · exact hp
      · exact absurd h3 hne
    obtain ⟨hlen, _, _⟩ := hp.len
    have hj : ∀ i, i ≤ 64 → (joinB (phiN x0 i) commaS).size ≤ 64 * 196 := fun i hi => by
      have h1 := joinB_size commaS 194 (phiN x0 i) (phi_size hs _)
      rw [phiN_len] at h1
      exact Nat.le_trans h1 (Nat.mul_le_mul_right _ hi)
    refine x.loop (α := IW x0.frm.length) (fun y => ⟨[(1, .ptr 0 0), (4, vs (out1 x0 ++ joinB (phiN x0 y.i) commaS)), (5, vi (y.i : Int))], [(0, .box [.d (.int .u8 x0.kind), .d (.int .u8 x0.op), vs x0.dst, vs x0.ref, vs x0.alt, .d (dStrs x0.args), .d (dStrs x0.frm), vi x0.num, vi x0.at_])], 2⟩) (fun y => x0.frm.length - y.i) ⟨0, Nat.zero_le _⟩ rfl trivial ⟨⟨⟨rfl, rfl⟩, (app_nil' (out1 x0)).symm, rfl, trivial⟩, ⟨⟨rfl, rfl, rfl, rfl, rfl, veq0_d rfl, veq0_d rfl, rfl, rfl, trivial⟩, trivial⟩, rfl⟩ (fun y => ?_)
    obtain ⟨i, hi⟩ := y
    change Go C _ ⟨[(1, .ptr 0 0), (4, vs (out1 x0 ++ joinB (phiN x0 i) commaS)), (5, vi (i : Int))], [(0, .box [.d (.int .u8 x0.kind), .d (.int .u8 x0.op), vs x0.dst, vs x0.ref, vs x0.alt, .d (dStrs x0.args), .d (dStrs x0.frm), vi x0.num, vi x0.at_])], 2⟩ _
    have hji := hj i (by omega)
    have hc : commaS.size = 2 := rfl
    refine x.cond rfl trivial (fun h4 => ?_) (fun h4 => ?_)
    · have h4 : (i : Int) < (x0.frm.length : Int) := of_decide_eq_true h4
      have h4 : i < x0.frm.length := by omega
      have g1 := getD_small hs.frm i
      have g2 := getD_small hs.args i
      refine x.ite (α := Unit) (fun _ => ⟨[(1, .ptr 0 0), (4, vs (midP x0 i)), (5, vi (i : Int))], [(0, .box [.d (.int .u8 x0.kind), .d (.int .u8 x0.op), vs x0.dst, vs x0.ref, vs x0.alt, .d (dStrs x0.args), .d (dStrs x0.frm), vi x0.num, vi x0.at_])], 2⟩) rfl trivial (fun h5 => ?_) (fun h5 => ?_) (fun _ => ?_)
      · have h5 : (0 : Int) < (i : Int) := of_decide_eq_true h5
        refine x.back rfl (by simp only [AllP, app_size]; show (((out1 x0).size + (joinB (phiN x0 i) commaS).size + commaS.size : Nat) : Int) ≤ _; omega) ⟨(), ⟨⟨rfl, rfl⟩, ?_, rfl, trivial⟩, ⟨⟨rfl, rfl, rfl, rfl, rfl, veq0_d rfl, veq0_d rfl, rfl, rfl, trivial⟩, trivial⟩, rfl⟩
        show (out1 x0 ++ joinB (phiN x0 i) commaS) ++ commaS = midP x0 i
        unfold midP; rw [if_pos (by omega)]
      · have h5 : ¬ (0 : Int) < (i : Int) := of_decide_eq_false h5
        refine x.back rfl trivial ⟨(), ⟨⟨rfl, rfl⟩, ?_, rfl, trivial⟩, ⟨⟨rfl, rfl, rfl, rfl, rfl, veq0_d rfl, veq0_d rfl, rfl, rfl, trivial⟩, trivial⟩, rfl⟩
        show out1 x0 ++ joinB (phiN x0 i) commaS = midP x0 i
        unfold midP; rw [if_neg (by omega)]
      have hm : (midP x0 i).size ≤ 20000 := by
        unfold midP
        split
        · rw [app_size, app_size]; omega
        · rw [app_size]; omega
      refine x.quiet rfl trivial mixedP (by kernel_rfl) ?_
      refine x.qdone rfl (by simp only [AllP, app_size, sz58, Int.toNat_natCast]; omega) ?_
      refine x.back rfl (by simp only [AllP, inI64]; omega) ⟨⟨i + 1, by omega⟩, by show x0.frm.length - (i + 1) < x0.frm.length - i; omega, ⟨⟨rfl, rfl⟩, ?_, ?_, trivial⟩, ⟨⟨rfl, rfl, rfl, rfl, rfl, veq0_d rfl, veq0_d rfl, rfl, rfl, trivial⟩, trivial⟩, rfl⟩
      · show midP x0 i ++ ((x0.frm.getD ((i : Int).toNat) .empty ++ (⟨#[58, 32]⟩ : ByteArray)) ++ x0.args.getD ((i : Int).toNat) .empty) = out1 x0 ++ joinB (phiN x0 (i + 1)) commaS
        rw [Int.toNat_natCast]
        exact midP_next x0 i
      · show VEq0 (vi ((i : Int) + 1)) (vi ((i + 1 : Nat) : Int)); rw [Int.natCast_add]; rfl
    · have h4 : ¬ (i : Int) < (x0.frm.length : Int) := of_decide_eq_false h4
      obtain rfl : i = x0.frm.length := by omega
      refine x.exit rfl (by simp only [AllP, app_size, sz93]; omega) ?_
      exact ⟨.inr rfl, lk3 h3 hp.dst, trivial, rfl⟩
  have h3 : ¬ x0.kind = 3 := of_decide_eq_false h3
  have k459 : ∀ (hk : x0.kind = 4 ∨ x0.kind = 5 ∨ x0.kind = 9), ((out1 x0 ++ x0.ref) ++ (⟨#[32]⟩ : ByteArray)) ++ x0.args.getD 0 .empty = lineP x0 ∧ (x0.args.length : Int) = 1 := fun hk => by
    rcases hk with h | h | h
    · exact ⟨lk4 h (hons (n := 1) (r := true) (a := false) (by rw [h]; rfl) h3), right_len hr (n := 1) (by rw [h]; rfl) h3 (by omega)⟩
    · exact ⟨lk5 h (hons (n := 1) (r := true) (a := false) (by rw [h]; rfl) h3), right_len hr (n := 1) (by rw [h]; rfl) h3 (by omega)⟩
    · exact ⟨lk9 h (hoff (n := 1) (r := true) (a := false) (by rw [h]; rfl) h3), right_len hr (n := 1) (by rw [h]; rfl) h3 (by omega)⟩
  refine x.cond rfl trivial (fun h4 => ?_) (fun h4 => ?_)
  · have h4 : x0.kind = 4 := of_decide_eq_true h4
    refine x.cond rfl trivial (fun _ => ?_) (fun h => absurd h4 (of_decide_eq_false h))
    obtain ⟨e1, e2⟩ := k459 (.inl h4)
    refine x.quiet rfl trivial mixedP (by kernel_rfl) ?_
    refine x.qdone rfl (by simp only [AllP, app_size, sz32, Int.toNat_zero, toN1]; omega) ?_
    refine x.exit rfl trivial ?_
    exact ⟨.inr rfl, e1, trivial, rfl⟩
  have h4 : ¬ x0.kind = 4 := of_decide_eq_false h4
  refine x.cond rfl trivial (fun h5 => ?_) (fun h5 => ?_)
  · have h5 : x0.kind = 5 := of_decide_eq_true h5
    refine x.cond rfl trivial (fun _ => ?_) (fun h => absurd h5 (of_decide_eq_false h))
    obtain ⟨e1, e2⟩ := k459 (.inr (.inl h5))
    refine x.quiet rfl trivial mixedP (by kernel_rfl) ?_
    refine x.qdone rfl (by simp only [AllP, app_size, sz32, Int.toNat_zero, toN1]; omega) ?_
    refine x.exit rfl trivial ?_
    exact ⟨.inr rfl, e1, trivial, rfl⟩
  have h5 : ¬ x0.kind = 5 := of_decide_eq_false h5
  refine x.cond rfl trivial (fun h9 => ?_) (fun h9 => ?_)
  · have h9 : x0.kind = 9 := of_decide_eq_true h9
    obtain ⟨e1, e2⟩ := k459 (.inr (.inr h9))
    refine x.quiet rfl trivial mixedP (by kernel_rfl) ?_
    refine x.qdone rfl (by simp only [AllP, app_size, sz32, Int.toNat_zero, toN1]; omega) ?_
    refine x.exit rfl trivial ?_
    exact ⟨.inr rfl, e1, trivial, rfl⟩
  have h9 : ¬ x0.kind = 9 := of_decide_eq_false h9
  refine x.cond rfl trivial (fun h6 => ?_) (fun h6 => ?_)
  · have h6 : x0.kind = 6 := of_decide_eq_true h6
    have hl := right_len hr (n := 2) (by rw [h6]; rfl) (by omega) (by omega)
    refine x.quiet rfl trivial mixedP (by kernel_rfl) ?_
    refine x.qdone rfl (by simp only [AllP, app_size, sz32, Int.toNat_zero, toN1]; omega) ?_
    refine x.exit rfl trivial ?_
    exact ⟨.inr rfl, lk6 h6 (hoff (n := 2) (r := true) (a := false) (by rw [h6]; rfl) h3), trivial, rfl⟩
  have h6 : ¬ x0.kind = 6 := of_decide_eq_false h6
  refine x.cond rfl trivial (fun h7 => ?_) (fun h7 => ?_)
  · have h7 : x0.kind = 7 := of_decide_eq_true h7
    have hj := joinB_size commaS 96 x0.args hs.args
    have hj2 : (joinB x0.args commaS).size ≤ 64 * 98 := Nat.le_trans hj (Nat.mul_le_mul_right _ hs.alen)
    refine x.quiet rfl trivial mixedP (by kernel_rfl) ?_
    refine x.qcall rfl (by simp only [AllP, app_size, sz40]; omega) rfl (joined_spec x0.args hs.alen hs.args) rfl rfl ⟨veq_d rfl, trivial⟩ ?_
    refine x.qdone rfl (by simp only [AllP, app_size, sz40, sz41]; omega) ?_
    refine x.exit rfl trivial ?_
    exact ⟨.inr rfl, lk7 h7 (hons (n := -1) (r := true) (a := false) (by rw [h7]; rfl) h3), trivial, rfl⟩
  have h7 : ¬ x0.kind = 7 := of_decide_eq_false h7
  refine x.cond rfl trivial (fun h10 => ?_) (fun h10 => ?_)
  · have h10 : x0.kind = 10 := of_decide_eq_true h10
    have hl := right_len hr (n := 1) (by rw [h10]; rfl) (by omega) (by omega)
    refine x.quiet rfl trivial mixedP (by kernel_rfl) ?_
    refine x.qdone rfl (by simp only [AllP, app_size, sz32, Int.toNat_zero, toN1]; omega) ?_
    refine x.exit rfl trivial ?_
    exact ⟨.inr rfl, lk10 h10 (hons (n := 1) (r := true) (a := false) (by rw [h10]; rfl) h3), trivial, rfl⟩
  have h10 : ¬ x0.kind = 10 := of_decide_eq_false h10
  refine x.cond rfl trivial (fun h12 => ?_) (fun h12 => ?_)
  · have h12 : x0.kind = 12 := of_decide_eq_true h12
    have hl := right_len hr (n := 1) (by rw [h12]; rfl) (by omega) (by omega)
    refine x.quiet rfl trivial mixedP (by kernel_rfl) ?_
    refine x.qdone rfl (by simp only [AllP, app_size, sz32, Int.toNat_zero, toN1]; omega) ?_
    refine x.exit rfl trivial ?_
    exact ⟨.inr rfl, lk12 h12 (hoff (n := 1) (r := true) (a := true) (by rw [h12]; rfl) h3), trivial, rfl⟩
  have h12 : ¬ x0.kind = 12 := of_decide_eq_false h12
  refine x.cond rfl trivial (fun h13 => ?_) (fun h13 => ?_)
  · have h13 : x0.kind = 13 := of_decide_eq_true h13
    have hl := right_len hr (n := 1) (by rw [h13]; rfl) (by omega) (by omega)
    refine x.exit rfl (by simp only [AllP, Int.toNat_zero]; omega) ?_
    exact ⟨.inr rfl, lk13 h13 (hoff (n := 1) (r := false) (a := false) (by rw [h13]; rfl) h3), trivial, rfl⟩
  have h13 : ¬ x0.kind = 13 := of_decide_eq_false h13
  refine x.exit rfl (by simp only [AllP]; omega) ?_
  refine ⟨.inr rfl, ?_, trivial, rfl⟩
  show out1 x0 ++ x0.ref = lineP x0
  rcases (show x0.kind = 8 ∨ x0.kind = 11 by omega) with h | h
  · exact lk8 h (hons (n := 0) (r := true) (a := false) (by rw [h]; rfl) h3)
  · exact lk11 h (hoff (n := 0) (r := true) (a := false) (by rw [h]; rfl) h3)
end Go.Proofs.YteeofakohenpoaaGreatDoor

/- The answer's word on programs: may they be, and what is written. -/
namespace Go.Proofs.YteeofakohenpoaaGreatDoor
open Go.Sx
set_option linter.unusedVariables false
set_option linter.unusedSimpArgs false
set_option maxRecDepth 100000

/-- How far: functions that may be, few instructions. -/
structure QW (fs : List Fun) where
  i : Nat
  hi : i ≤ fs.length
  ok : ∀ j, j < i → funOK (fs.getD j fun0) = true
  few : sumF fs i ≤ 4096
structure QB (bs : List Blk) (m : Nat) where
  k : Nat
  hk : k ≤ bs.length
  ok : ∀ j, j < k → blkOK (bs.getD j blk0) = true
  few : m + sumC bs k ≤ 4096
structure QC (xs : List Ins) (m : Nat) where
  j : Nat
  hj : j ≤ xs.length
  ok : ∀ i, i < j → rightI (xs.getD i (ins0 0)) = true
  few : m + j ≤ 4096
theorem sumC_le_all (bs : List Blk) (k : Nat) : sumC bs k ≤ (bs.map fun b => b.code.length).sum := by
  have h : (bs.map fun b => b.code.length).sum = ((bs.take k ++ bs.drop k).map fun b => b.code.length).sum := by rw [List.take_append_drop]
  rw [h, List.map_append, List.sum_append]
  exact Nat.le_add_right _ _
theorem all_getD {α : Type} {l : List α} {p : α → Bool} {d : α} (h : ∀ j, j < l.length → p (l.getD j d) = true) : l.all p = true := by
  rw [← all_allF l p d, allF_iff]
  exact fun j _ hj => h j (by omega)
theorem not_all {α : Type} {l : List α} {p : α → Bool} {d : α} {i : Nat} (hi : i < l.length) (h : p (l.getD i d) = false) : l.all p = false := by
  rw [Bool.eq_false_iff, Ne, List.all_eq_true]
  intro h2
  rw [h2 _ (getD_mem hi)] at h; cases h
set_option maxHeartbeats 8000000 in
theorem refright_spec (p : Prg) (hp : FitP p) : Pure PG 9 [prgV p] (vb (rightP p)) [] := by
  refine Proc.mk (cfg 135) tysOK [] Tryz.func9 rfl (by kernel_rfl) rfl rfl rfl ?_
  intro C x
  obtain ⟨p1, p2, p3, p4⟩ := hp
  unfold bigL at p1 p3
  have ec : (decide (16 < p.arrays.length) || decide (64 < p.funcs.length)) = (decide ((16 : Int) < p.arrays.length) || decide ((64 : Int) < p.funcs.length)) := by
    rw [show decide ((16 : Int) < p.arrays.length) = decide (16 < p.arrays.length) by rw [decide_eq_decide]; omega, show decide ((64 : Int) < p.funcs.length) = decide (64 < p.funcs.length) by rw [decide_eq_decide]; omega]
  refine x.cond rfl trivial (fun h => ?_) (fun h => ?_)
  · have h : (decide ((16 : Int) < p.arrays.length) || decide ((64 : Int) < p.funcs.length)) = true := h
    refine x.exit rfl trivial ?_
    refine ⟨.inr rfl, ?_, trivial, rfl⟩
    show false = rightP p
    unfold rightP
    rw [ec, h]; rfl
  have h : (decide ((16 : Int) < p.arrays.length) || decide ((64 : Int) < p.funcs.length)) = false := h
  obtain ⟨R, hR⟩ : ∃ R, p.arrays.all arrOK = R := ⟨_, rfl⟩
  have hF : rightP p = (R && p.funcs.all funOK && decide (progN8 p.funcs ≤ 4096)) := by unfold rightP; rw [ec, h, hR]; rfl
  have hR2 : allF (fun i => arrOK (p.arrays.getD i arr0)) p.arrays.length 0 = R := by rw [all_allF]; exact hR
  rw [hF]
  have h64 : p.funcs.length ≤ 64 := by
    simp only [Bool.or_eq_false_iff, decide_eq_false_iff_not] at h
    omega
  clear h ec hF
  refine x.loop (α := AW (fun i => arrOK (p.arrays.getD i arr0)) p.arrays.length R) (fun y => ⟨[(1, .ptr 0 0), (3, vi (y.i : Int))], [(0, .box [.d (dArrs p.arrays), .d (dFuns p.funcs)])], 1⟩) (fun y => p.arrays.length - y.i) ⟨0, Nat.zero_le _, hR2⟩ rfl trivial ⟨⟨⟨rfl, rfl⟩, rfl, trivial⟩, ⟨⟨veq0_d rfl, veq0_d rfl, trivial⟩, trivial⟩, rfl⟩ (fun y => ?_)
  obtain ⟨i, hi, same⟩ := y
  change Go C _ ⟨[(1, .ptr 0 0), (3, vi (i : Int))], [(0, .box [.d (dArrs p.arrays), .d (dFuns p.funcs)])], 1⟩ _
  refine x.cond rfl trivial (fun h2 => ?_) (fun h2 => ?_)
  · have h2 : (i : Int) < (p.arrays.length : Int) := of_decide_eq_true h2
    have h2 : i < p.arrays.length := by omega
    have ei : ((i : Int).toNat) = i := Int.toNat_natCast i
    have ha := p2 _ (getD_mem (d := arr0) h2)
    have hfi : ∀ v, arrOK (p.arrays.getD i arr0) = v → (fun i => arrOK (p.arrays.getD i arr0)) i = v := fun v h => h
    obtain ⟨a, hae⟩ : ∃ a, p.arrays.getD i arr0 = a := ⟨_, rfl⟩
    have hae2 : p.arrays.getD ((i : Int).toNat) arr0 = a := by rw [ei]; exact hae
    rw [hae] at ha hfi
    refine x.pure rfl (by simp only [AllP]; omega) rfl (show Pure PG _ [vs (p.arrays.getD ((i : Int).toNat) arr0).name] _ [] from by rw [hae2]; exact rname_spec a.name ha.name) ⟨rfl, trivial⟩ ?_
    rw [hae2]
    refine x.pureG rfl trivial rfl (fun _ => rname_spec a.level ha.level) rfl ⟨rfl, trivial⟩ ?_
    refine x.cond rfl trivial (fun h3 => ?_) (fun h3 => ?_)
    · have h3 : (((!okN a.name || !okN a.level) || decide (a.size < 1)) || decide (256 < a.size)) = true := h3
      have hv : arrOK a = false := by unfold arrOK; rw [h3]; rfl
      refine x.exit rfl trivial ?_
      rw [AW.stop h2 same (hfi _ hv)]
      exact ⟨.inr rfl, rfl, trivial, rfl⟩
    · have h3 : (((!okN a.name || !okN a.level) || decide (a.size < 1)) || decide (256 < a.size)) = false := h3
      have hv : arrOK a = true := by unfold arrOK; rw [h3]; rfl
      refine x.back rfl (by simp only [AllP, inI64]; omega) ⟨⟨i + 1, by omega, AW.step h2 same (hfi _ hv)⟩, by show p.arrays.length - (i + 1) < p.arrays.length - i; omega, ⟨⟨rfl, rfl⟩, ?_, trivial⟩, ⟨⟨veq0_d rfl, veq0_d rfl, trivial⟩, trivial⟩, rfl⟩
      show VEq0 (vi ((i : Int) + 1)) (vi ((i + 1 : Nat) : Int)); rw [Int.natCast_add]; rfl
  have h2 : ¬ (i : Int) < (p.arrays.length : Int) := of_decide_eq_false h2
  have eR := AW.fin (by omega) hi same
  subst eR
  obtain ⟨Z, hZ⟩ : ∃ Z, (true && p.funcs.all funOK && decide (progN8 p.funcs ≤ 4096)) = Z := ⟨_, rfl⟩
  have badF : ∀ j, j < p.funcs.length → funOK (p.funcs.getD j fun0) = false → Z = false := fun j hj h => by
    rw [← hZ, not_all hj h]; rfl
  have badN : 4096 < progN8 p.funcs → Z = false := fun h => by
    rw [← hZ, decide_eq_false (by omega), Bool.and_false]
  rw [hZ]
  refine x.loop (α := QW p.funcs) (fun y => ⟨[(1, .ptr 0 0), (5, vi (sumF p.funcs y.i)), (6, vi (y.i : Int))], [(0, .box [.d (dArrs p.arrays), .d (dFuns p.funcs)])], 1⟩) (fun y => p.funcs.length - y.i) ⟨0, Nat.zero_le _, fun j hj => by omega, by simp [sumF]⟩ rfl trivial ⟨⟨⟨rfl, rfl⟩, rfl, rfl, trivial⟩, ⟨⟨veq0_d rfl, veq0_d rfl, trivial⟩, trivial⟩, rfl⟩ (fun y => ?_)
  obtain ⟨i, hi, ok, few⟩ := y
  change Go C _ ⟨[(1, .ptr 0 0), (5, vi (sumF p.funcs i)), (6, vi (i : Int))], [(0, .box [.d (dArrs p.arrays), .d (dFuns p.funcs)])], 1⟩ _
  refine x.cond rfl trivial (fun h3 => ?_) (fun h3 => ?_)
  rotate_left
  · have h3 : ¬ (i : Int) < (p.funcs.length : Int) := of_decide_eq_false h3
    obtain rfl : i = p.funcs.length := by omega
    refine x.exit rfl trivial ?_
    rw [sumF_all] at few
    rw [← hZ, all_getD (d := fun0) ok, decide_eq_true few]
    exact ⟨.inr rfl, rfl, trivial, rfl⟩
  have h3 : (i : Int) < (p.funcs.length : Int) := of_decide_eq_true h3
  have h3 : i < p.funcs.length := by omega
  have hff := p4 _ (getD_mem (d := fun0) h3)
  have hs := sumF_succ h3
  have hle := sumF_le p.funcs (i + 1)
  have hbad := badF i h3
  obtain ⟨f, hfe⟩ : ∃ f, p.funcs.getD i fun0 = f := ⟨_, rfl⟩
  have hfe2 : p.funcs.getD ((i : Int).toNat) fun0 = f := by rw [Int.toNat_natCast]; exact hfe
  rw [hfe] at hff hs hbad
  obtain ⟨f1, f2, f3, f4, f5⟩ := hff
  have f2' := f2
  unfold bigN at f2'
  unfold bigL at f4
  refine x.pure rfl (by simp only [AllP]; omega) rfl (show Pure PG _ [vs (p.funcs.getD ((i : Int).toNat) fun0).name] _ [] from by rw [hfe2]; exact rname_spec f.name f1) ⟨rfl, trivial⟩ ?_
  rw [hfe2]
  refine x.pureG rfl trivial rfl (fun _ => rnames_spec f.params f2 f3) rfl ⟨veq_d rfl, trivial⟩ ?_
  have ec : (!okN f.name || !allN f.params || decide (6 < f.params.length) || decide (f.blocks.length < 1) || decide (64 < f.blocks.length)) = (((((!okN f.name || !allN f.params) || decide ((6 : Int) < f.params.length)) || decide ((f.blocks.length : Int) < 1))) || decide ((64 : Int) < f.blocks.length)) := by
    rw [show decide ((6 : Int) < f.params.length) = decide (6 < f.params.length) by rw [decide_eq_decide]; omega, show decide ((f.blocks.length : Int) < 1) = decide (f.blocks.length < 1) by rw [decide_eq_decide]; omega, show decide ((64 : Int) < f.blocks.length) = decide (64 < f.blocks.length) by rw [decide_eq_decide]; omega]
  refine x.cond rfl trivial (fun h => ?_) (fun h => ?_)
  · have h : (((((!okN f.name || !allN f.params) || decide ((6 : Int) < f.params.length)) || decide ((f.blocks.length : Int) < 1))) || decide ((64 : Int) < f.blocks.length)) = true := h
    have hF : funOK f = false := by unfold funOK; rw [ec, h]; rfl
    refine x.exit rfl trivial ?_
    rw [hbad hF]
    exact ⟨.inr rfl, rfl, trivial, rfl⟩
  have h : (((((!okN f.name || !allN f.params) || decide ((6 : Int) < f.params.length)) || decide ((f.blocks.length : Int) < 1))) || decide ((64 : Int) < f.blocks.length)) = false := h
  have hb64 : f.blocks.length ≤ 64 := by
    simp only [Bool.or_eq_false_iff, decide_eq_false_iff_not] at h
    omega
  have hF : funOK f = f.blocks.all blkOK := by unfold funOK; rw [ec, h]; simp
  rw [hF] at hbad
  clear h ec
  have hfn : (f.blocks.map fun b => b.code.length).sum = fN f := rfl
  refine x.loop (α := QB f.blocks (sumF p.funcs i)) (fun y => ⟨[(1, .ptr 0 0), (5, vi ((sumF p.funcs i + sumC f.blocks y.k : Nat) : Int)), (6, vi (i : Int)), (7, .ptr 1 0), (8, vi (y.k : Int))], [(0, .box [.d (dArrs p.arrays), .d (dFuns p.funcs)]), (1, .box [vs f.name, .d (dStrs f.params), .d (dBlks f.blocks), vi f.at_])], 2⟩) (fun y => f.blocks.length - y.k) ⟨0, Nat.zero_le _, fun j hj => by omega, by simp [sumC]; omega⟩ rfl trivial ⟨⟨⟨rfl, rfl⟩, rfl, rfl, ⟨rfl, rfl⟩, rfl, trivial⟩, ⟨⟨veq0_d rfl, veq0_d rfl, trivial⟩, ⟨rfl, veq0_d rfl, veq0_d rfl, rfl, trivial⟩, trivial⟩, rfl⟩ (fun y => ?_)
  obtain ⟨k, hk, okb, fewb⟩ := y
  change Go C _ ⟨[(1, .ptr 0 0), (5, vi ((sumF p.funcs i + sumC f.blocks k : Nat) : Int)), (6, vi (i : Int)), (7, .ptr 1 0), (8, vi (k : Int))], [(0, .box [.d (dArrs p.arrays), .d (dFuns p.funcs)]), (1, .box [vs f.name, .d (dStrs f.params), .d (dBlks f.blocks), vi f.at_])], 2⟩ _
  refine x.cond rfl trivial (fun h4 => ?_) (fun h4 => ?_)
  rotate_left
  · have h4 : ¬ (k : Int) < (f.blocks.length : Int) := of_decide_eq_false h4
    obtain rfl : k = f.blocks.length := by omega
    have eN := sumC_all f
    refine x.back rfl (by simp only [AllP, inI64]; omega) ⟨⟨i + 1, by omega, fun j hj => ?_, by omega⟩, by show p.funcs.length - (i + 1) < p.funcs.length - i; omega, ⟨⟨rfl, rfl⟩, ?_, ?_, trivial⟩, ⟨⟨veq0_d rfl, veq0_d rfl, trivial⟩, trivial⟩, rfl⟩
    · by_cases e : j = i
      · rw [e, hfe, hF]; exact all_getD (d := blk0) okb
      · exact ok j (by omega)
    · show VEq0 (vi ((sumF p.funcs i + sumC f.blocks f.blocks.length : Nat) : Int)) (vi (sumF p.funcs (i + 1) : Int))
      rw [hs, eN]; rfl
    · show VEq0 (vi ((i : Int) + 1)) (vi ((i + 1 : Nat) : Int)); rw [Int.natCast_add]; rfl
  have h4 : (k : Int) < (f.blocks.length : Int) := of_decide_eq_true h4
  have h4 : k < f.blocks.length := by omega
  have hb := f5 _ (getD_mem (d := blk0) h4)
  have hs2 := sumC_succ h4
  have hle2 := sumC_le_all f.blocks (k + 1)
  have hbadb : blkOK (f.blocks.getD k blk0) = false → Z = false := fun h => hbad (not_all h4 h)
  obtain ⟨b, hbe⟩ : ∃ b, f.blocks.getD k blk0 = b := ⟨_, rfl⟩
  have hbe2 : f.blocks.getD ((k : Int).toNat) blk0 = b := by rw [Int.toNat_natCast]; exact hbe
  rw [hbe] at hb hs2 hbadb
  obtain ⟨b1, b2, b3⟩ := hb
  unfold bigL at b2
  refine x.pure rfl (by simp only [AllP]; omega) rfl (show Pure PG _ [vs (f.blocks.getD ((k : Int).toNat) blk0).name] _ [] from by rw [hbe2]; exact rname_spec b.name b1) ⟨rfl, trivial⟩ ?_
  refine x.cond rfl trivial (fun h5 => ?_) (fun h5 => ?_)
  · have h5 : (!okN b.name) = true := h5
    have hv : blkOK b = false := by unfold blkOK; rw [show okN b.name = false by simpa using h5]; rfl
    refine x.exit rfl trivial ?_
    rw [hbadb hv]
    exact ⟨.inr rfl, rfl, trivial, rfl⟩
  have h5 : (!okN b.name) = false := h5
  have hv : blkOK b = b.code.all rightI := by unfold blkOK; rw [show okN b.name = true by simpa using h5]; rfl
  rw [hv] at hbadb
  refine x.loop (α := QC b.code (sumF p.funcs i + sumC f.blocks k)) (fun y => ⟨[(1, .ptr 0 0), (5, vi ((sumF p.funcs i + sumC f.blocks k + y.j : Nat) : Int)), (6, vi (i : Int)), (7, .ptr 1 0), (8, vi (k : Int)), (9, vi (y.j : Int))], [(0, .box [.d (dArrs p.arrays), .d (dFuns p.funcs)]), (1, .box [vs f.name, .d (dStrs f.params), .d (dBlks f.blocks), vi f.at_])], 2⟩) (fun y => b.code.length - y.j) ⟨0, Nat.zero_le _, fun j hj => by omega, by omega⟩ rfl trivial ⟨⟨⟨rfl, rfl⟩, rfl, rfl, ⟨rfl, rfl⟩, rfl, rfl, trivial⟩, ⟨⟨veq0_d rfl, veq0_d rfl, trivial⟩, ⟨rfl, veq0_d rfl, veq0_d rfl, rfl, trivial⟩, trivial⟩, rfl⟩ (fun y => ?_)
  obtain ⟨j, hj, okc, fewc⟩ := y
  change Go C _ ⟨[(1, .ptr 0 0), (5, vi ((sumF p.funcs i + sumC f.blocks k + j : Nat) : Int)), (6, vi (i : Int)), (7, .ptr 1 0), (8, vi (k : Int)), (9, vi (j : Int))], [(0, .box [.d (dArrs p.arrays), .d (dFuns p.funcs)]), (1, .box [vs f.name, .d (dStrs f.params), .d (dBlks f.blocks), vi f.at_])], 2⟩ _
  refine x.cond rfl (by simp only [AllP]; omega) (fun h6 => ?_) (fun h6 => ?_)
  rotate_left
  · have h6 : ¬ (j : Int) < ((f.blocks.getD ((k : Int).toNat) blk0).code.length : Int) := of_decide_eq_false h6
    rw [hbe2] at h6
    obtain rfl : j = b.code.length := by omega
    refine x.back rfl (by simp only [AllP, inI64]; omega) ⟨⟨k + 1, by omega, fun q hq => ?_, by omega⟩, by show f.blocks.length - (k + 1) < f.blocks.length - k; omega, ⟨⟨rfl, rfl⟩, ?_, rfl, ⟨rfl, rfl⟩, ?_, trivial⟩, ⟨⟨veq0_d rfl, veq0_d rfl, trivial⟩, ⟨rfl, veq0_d rfl, veq0_d rfl, rfl, trivial⟩, trivial⟩, rfl⟩
    · by_cases e : q = k
      · rw [e, hbe, hv]; exact all_getD (d := ins0 0) okc
      · exact okb q (by omega)
    · show VEq0 (vi ((sumF p.funcs i + sumC f.blocks k + b.code.length : Nat) : Int)) (vi ((sumF p.funcs i + sumC f.blocks (k + 1) : Nat) : Int))
      rw [hs2, Nat.add_assoc]; rfl
    · show VEq0 (vi ((k : Int) + 1)) (vi ((k + 1 : Nat) : Int)); rw [Int.natCast_add]; rfl
  have h6 : (j : Int) < ((f.blocks.getD ((k : Int).toNat) blk0).code.length : Int) := of_decide_eq_true h6
  rw [hbe2] at h6
  have h6 : j < b.code.length := by omega
  have hx := b3 _ (getD_mem (d := ins0 0) h6)
  have hbadx : rightI (b.code.getD j (ins0 0)) = false → Z = false := fun h => hbadb (not_all h6 h)
  obtain ⟨q, hqe⟩ : ∃ q, b.code.getD j (ins0 0) = q := ⟨_, rfl⟩
  have hqe2 : (f.blocks.getD ((k : Int).toNat) blk0).code.getD ((j : Int).toNat) (ins0 0) = q := by rw [hbe2, Int.toNat_natCast]; exact hqe
  rw [hqe] at hx hbadx
  refine x.pureG rfl ?_ rfl (fun _ => show Pure PG _ [insV ((f.blocks.getD ((k : Int).toNat) blk0).code.getD ((j : Int).toNat) (ins0 0))] _ [] from by rw [hqe2]; exact rightinstr_spec q hx) rfl ⟨⟨rfl, rfl, rfl, rfl, rfl, veq0_d rfl, veq0_d rfl, rfl, rfl, trivial⟩, trivial⟩ ?_
  · rw [hbe2]; exact ⟨by unfold inI64; omega, fun _ => by omega, fun _ => by omega⟩
  refine x.cond rfl trivial (fun h7 => ?_) (fun h7 => ?_)
  · have h7 : (decide ((4096 : Int) < ((sumF p.funcs i + sumC f.blocks k + j : Nat) : Int) + 1) || !rightI q) = true := h7
    refine x.exit rfl trivial ?_
    have eZ : Z = false := by
      simp only [Bool.or_eq_true, decide_eq_true_eq, Bool.not_eq_true'] at h7
      rcases h7 with h7 | h7
      · exact badN (by omega)
      · exact hbadx h7
    rw [eZ]
    exact ⟨.inr rfl, rfl, trivial, rfl⟩
  · have h7 : (decide ((4096 : Int) < ((sumF p.funcs i + sumC f.blocks k + j : Nat) : Int) + 1) || !rightI q) = false := h7
    simp only [Bool.or_eq_false_iff, decide_eq_false_iff_not, Bool.not_eq_false'] at h7
    refine x.back rfl (by simp only [AllP, inI64]; omega) ⟨⟨j + 1, by omega, fun z hz => ?_, by omega⟩, by show b.code.length - (j + 1) < b.code.length - j; omega, ⟨⟨rfl, rfl⟩, ?_, rfl, ⟨rfl, rfl⟩, rfl, ?_, trivial⟩, ⟨⟨veq0_d rfl, veq0_d rfl, trivial⟩, ⟨rfl, veq0_d rfl, veq0_d rfl, rfl, trivial⟩, trivial⟩, rfl⟩
    · by_cases e : z = j
      · rw [e, hqe]; exact h7.2
      · exact okc z (by omega)
    · show VEq0 (vi (((sumF p.funcs i + sumC f.blocks k + j : Nat) : Int) + 1)) (vi ((sumF p.funcs i + sumC f.blocks k + (j + 1) : Nat) : Int))
      rw [← Nat.add_assoc, Int.natCast_add (sumF p.funcs i + sumC f.blocks k + j) 1]; rfl
    · show VEq0 (vi ((j : Int) + 1)) (vi ((j + 1 : Nat) : Int)); rw [Int.natCast_add]; rfl
end Go.Proofs.YteeofakohenpoaaGreatDoor

/- What the answer writes of a program. -/
namespace Go.Proofs.YteeofakohenpoaaGreatDoor
open Go.Sx
set_option linter.unusedVariables false
set_option linter.unusedSimpArgs false
set_option maxRecDepth 100000

theorem szarr : (⟨#[97, 114, 114, 97, 121, 32]⟩ : ByteArray).size = 6 := rfl
theorem sz10 : (⟨#[10]⟩ : ByteArray).size = 1 := rfl
theorem sz5810 : (⟨#[58, 10]⟩ : ByteArray).size = 2 := rfl
theorem sz12510 : (⟨#[125, 10]⟩ : ByteArray).size = 2 := rfl
theorem szbr2 : (⟨#[41, 32, 123, 10]⟩ : ByteArray).size = 4 := rfl
theorem ra_line (acc : ByteArray) (a : Arr) : acc ++ ((((((⟨#[97, 114, 114, 97, 121, 32]⟩ : ByteArray) ++ a.name) ++ (⟨#[32]⟩ : ByteArray)) ++ showV a.size) ++ (⟨#[32]⟩ : ByteArray)) ++ a.level ++ (⟨#[10]⟩ : ByteArray)) = putP acc (arrLine a) := by
  unfold putP arrLine
  rw [join4]
  exact joinB_one.ba_inj8 (by simp only [app_data, List.append_assoc]; rfl)
theorem rf_line (acc : ByteArray) (f : Fun) : acc ++ (((((⟨#[102, 110, 32]⟩ : ByteArray) ++ f.name) ++ (⟨#[40]⟩ : ByteArray)) ++ joinB f.params commaS) ++ (⟨#[41, 32, 123, 10]⟩ : ByteArray)) = putP acc (fnLine f) := by
  unfold putP fnLine
  exact joinB_one.ba_inj8 (by simp only [app_data, List.append_assoc]; rfl)
theorem rb_line (acc : ByteArray) (b : Blk) : acc ++ (b.name ++ (⟨#[58, 10]⟩ : ByteArray)) = putP acc (blkLine b) := by
  unfold putP blkLine
  exact joinB_one.ba_inj8 (by simp only [app_data, List.append_assoc]; rfl)
theorem ri_line (acc : ByteArray) (x : Ins) : acc ++ (((⟨#[32, 32]⟩ : ByteArray) ++ lineP x) ++ (⟨#[10]⟩ : ByteArray)) = putP acc (insLine x) := rfl
theorem re_line (acc : ByteArray) : acc ++ (⟨#[125, 10]⟩ : ByteArray) = putP acc ⟨#[125]⟩ := by
  unfold putP
  exact joinB_one.ba_inj8 (by simp only [app_data]; rfl)
set_option maxHeartbeats 8000000 in
theorem refprint_spec (p : Prg) (hp : FitP p) : Pure PG 7 [prgV p] (.tup [vs (printP p).1, vi (printP p).2]) [] := by
  refine Proc.mk (cfg 117) tysOK [] Tryz.func7 rfl (by kernel_rfl) rfl rfl rfl ?_
  intro C x
  refine x.pure rfl trivial rfl (refright_spec p hp) ⟨⟨veq0_d rfl, veq0_d rfl, trivial⟩, trivial⟩ ?_
  refine x.cond rfl trivial (fun h => ?_) (fun h => ?_)
  · have h : (!rightP p) = true := h
    refine x.exit rfl trivial ?_
    unfold printP
    rw [if_neg (by simpa using h)]
    exact ⟨.inr rfl, ⟨rfl, rfl, trivial⟩, trivial, rfl⟩
  have h : (!rightP p) = false := h
  have hr : rightP p = true := by simpa using h
  have hR := right_prg hr
  have hnum : ∀ f, f ∈ p.funcs → ∀ b, b ∈ f.blocks → ∀ x, x ∈ b.code → inI64 x.num := fun f hf b hb x hx => (((hp.funcs f hf).blocks b hb).code x hx).num
  have ha16 := hR.alen
  have hf64 := hR.flen
  unfold printP
  rw [if_pos hr]
  clear h
  refine x.loop (α := IW p.arrays.length) (fun y => ⟨[(1, .ptr 0 0), (4, vs (textA .empty (p.arrays.take y.i))), (5, vi (y.i : Int))], [(0, .box [.d (dArrs p.arrays), .d (dFuns p.funcs)])], 1⟩) (fun y => p.arrays.length - y.i) ⟨0, Nat.zero_le _⟩ rfl trivial ⟨⟨⟨rfl, rfl⟩, rfl, rfl, trivial⟩, ⟨⟨veq0_d rfl, veq0_d rfl, trivial⟩, trivial⟩, rfl⟩ (fun y => ?_)
  obtain ⟨i, hi⟩ := y
  change Go C _ ⟨[(1, .ptr 0 0), (4, vs (textA .empty (p.arrays.take i))), (5, vi (i : Int))], [(0, .box [.d (dArrs p.arrays), .d (dFuns p.funcs)])], 1⟩ _
  refine x.cond rfl trivial (fun h2 => ?_) (fun h2 => ?_)
  · have h2 : (i : Int) < (p.arrays.length : Int) := of_decide_eq_true h2
    have h2 : i < p.arrays.length := by omega
    have ei : ((i : Int).toNat) = i := Int.toNat_natCast i
    have hin := hp.arrays _ (getD_mem (d := arr0) h2)
    have hok := hR.arrays _ (getD_mem (d := arr0) h2)
    have hsz := arrs_size hR i
    have hsuc := textA_succ h2 .empty
    obtain ⟨a, hae⟩ : ∃ a, p.arrays.getD i arr0 = a := ⟨_, rfl⟩
    have hae2 : p.arrays.getD ((i : Int).toNat) arr0 = a := by rw [ei]; exact hae
    rw [hae] at hin hok hsuc
    have hsh := show_size hin.size
    have hnm := hin.name
    have hlv := hin.level
    unfold okL at hnm hlv
    refine x.quiet rfl trivial mixedP (by kernel_rfl) ?_
    refine x.qcall rfl (by rw [hae2]; simp only [AllP, app_size, szarr, sz32]; omega) rfl (show Pure PG _ [vi (p.arrays.getD ((i : Int).toNat) arr0).size] _ [] from by rw [hae2]; exact ref_show_spec a.size hin.size) rfl rfl ⟨rfl, trivial⟩ ?_
    rw [hae2]
    refine x.qdone rfl (by rw [hae2]; simp only [AllP, app_size, szarr, sz32, sz10]; omega) ?_
    rw [hae2]
    refine x.back rfl (by simp only [AllP, inI64]; omega) ⟨⟨i + 1, by omega⟩, by show p.arrays.length - (i + 1) < p.arrays.length - i; omega, ⟨⟨rfl, rfl⟩, (ra_line _ a).trans hsuc, ?_, trivial⟩, ⟨⟨veq0_d rfl, veq0_d rfl, trivial⟩, trivial⟩, rfl⟩
    show VEq0 (vi ((i : Int) + 1)) (vi ((i + 1 : Nat) : Int)); rw [Int.natCast_add]; rfl
  have h2 : ¬ (i : Int) < (p.arrays.length : Int) := of_decide_eq_false h2
  obtain rfl : i = p.arrays.length := by omega
  rw [List.take_length]
  have hA : (textA .empty p.arrays).size ≤ 5000 := by have := arrs_size hR p.arrays.length; rwa [List.take_length] at this
  refine x.loop (α := IW p.funcs.length) (fun y => ⟨[(1, .ptr 0 0), (4, vs (textF (textA .empty p.arrays) (p.funcs.take y.i))), (6, vi (y.i : Int))], [(0, .box [.d (dArrs p.arrays), .d (dFuns p.funcs)])], 1⟩) (fun y => p.funcs.length - y.i) ⟨0, Nat.zero_le _⟩ rfl trivial ⟨⟨⟨rfl, rfl⟩, rfl, rfl, trivial⟩, ⟨⟨veq0_d rfl, veq0_d rfl, trivial⟩, trivial⟩, rfl⟩ (fun y => ?_)
  obtain ⟨i, hi⟩ := y
  change Go C _ ⟨[(1, .ptr 0 0), (4, vs (textF (textA .empty p.arrays) (p.funcs.take i))), (6, vi (i : Int))], [(0, .box [.d (dArrs p.arrays), .d (dFuns p.funcs)])], 1⟩ _
  have hsz := funs_size hR hnum i (textA .empty p.arrays)
  refine x.cond rfl trivial (fun h2 => ?_) (fun h2 => ?_)
  rotate_left
  · have h2 : ¬ (i : Int) < (p.funcs.length : Int) := of_decide_eq_false h2
    obtain rfl : i = p.funcs.length := by omega
    rw [List.take_length]
    refine x.cond rfl trivial (fun h3 => ?_) (fun h3 => ?_)
    · have h3 : (65536 : Int) < ((textP p).size : Int) := of_decide_eq_true h3
      rw [if_pos (by omega)]
      refine x.exit rfl trivial ?_
      exact ⟨.inr rfl, ⟨rfl, rfl, trivial⟩, trivial, rfl⟩
    · have h3 : ¬ (65536 : Int) < ((textP p).size : Int) := of_decide_eq_false h3
      rw [if_neg (by omega)]
      refine x.exit rfl trivial ?_
      exact ⟨.inr rfl, ⟨rfl, rfl, trivial⟩, trivial, rfl⟩
  have h2 : (i : Int) < (p.funcs.length : Int) := of_decide_eq_true h2
  have h2 : i < p.funcs.length := by omega
  have ei : ((i : Int).toNat) = i := Int.toNat_natCast i
  have hin := hp.funcs _ (getD_mem (d := fun0) h2)
  have hok := hR.funcs _ (getD_mem (d := fun0) h2)
  have hnf := hnum _ (getD_mem (d := fun0) h2)
  have hsuc := textF_succ h2 (textA .empty p.arrays)
  obtain ⟨f, hfe⟩ : ∃ f, p.funcs.getD i fun0 = f := ⟨_, rfl⟩
  have hfe2 : p.funcs.getD ((i : Int).toNat) fun0 = f := by rw [ei]; exact hfe
  rw [hfe] at hin hok hnf hsuc
  have hls := fnLine_size hok.name hok.params hok.plen
  have hnz := okN_size hok.name
  have hjz := joinB_size commaS 96 f.params (allN_size hok.params)
  have hjz2 : (joinB f.params commaS).size ≤ 6 * 98 := Nat.le_trans hjz (Nat.mul_le_mul_right _ hok.plen)
  have hpl := hok.plen
  have hbl := hok.blen
  obtain ⟨acc, hacc⟩ : ∃ acc, textF (textA .empty p.arrays) (p.funcs.take i) = acc := ⟨_, rfl⟩
  rw [hacc] at hsz hsuc ⊢
  refine x.quiet rfl (by simp only [AllP]; omega) mixedP (by kernel_rfl) ?_
  refine x.qcall rfl (by rw [hfe2]; simp only [AllP, app_size, szfn, sz40]; omega) rfl (show Pure PG _ [.d (dStrs (p.funcs.getD ((i : Int).toNat) fun0).params)] _ [] from by rw [hfe2]; exact joined_spec f.params (by omega) (allN_size hok.params)) rfl rfl ⟨veq_d rfl, trivial⟩ ?_
  rw [hfe2]
  refine x.qdone rfl (by simp only [AllP, app_size, szfn, sz40, szbr2]; omega) ?_
  refine x.loop (α := IW f.blocks.length) (fun y => ⟨[(1, .ptr 0 0), (4, vs (textB (putP acc (fnLine f)) (f.blocks.take y.i))), (6, vi (i : Int)), (7, .ptr 1 0), (8, vi (y.i : Int))], [(0, .box [.d (dArrs p.arrays), .d (dFuns p.funcs)]), (1, .box [vs f.name, .d (dStrs f.params), .d (dBlks f.blocks), vi f.at_])], 2⟩) (fun y => f.blocks.length - y.i) ⟨0, Nat.zero_le _⟩ rfl trivial ⟨⟨⟨rfl, rfl⟩, rf_line acc f, rfl, ⟨rfl, rfl⟩, rfl, trivial⟩, ⟨⟨veq0_d rfl, veq0_d rfl, trivial⟩, ⟨rfl, veq0_d rfl, veq0_d rfl, rfl, trivial⟩, trivial⟩, rfl⟩ (fun y => ?_)
  obtain ⟨k, hk⟩ := y
  change Go C _ ⟨[(1, .ptr 0 0), (4, vs (textB (putP acc (fnLine f)) (f.blocks.take k))), (6, vi (i : Int)), (7, .ptr 1 0), (8, vi (k : Int))], [(0, .box [.d (dArrs p.arrays), .d (dFuns p.funcs)]), (1, .box [vs f.name, .d (dStrs f.params), .d (dBlks f.blocks), vi f.at_])], 2⟩ _
  have hsz2 := fun_size hok hnf k acc
  refine x.cond rfl trivial (fun h4 => ?_) (fun h4 => ?_)
  rotate_left
  · have h4 : ¬ (k : Int) < (f.blocks.length : Int) := of_decide_eq_false h4
    obtain rfl : k = f.blocks.length := by omega
    rw [List.take_length] at hsz2 ⊢
    refine x.back rfl (by simp only [AllP, inI64, sz12510]; omega) ⟨⟨i + 1, by omega⟩, by show p.funcs.length - (i + 1) < p.funcs.length - i; omega, ⟨⟨rfl, rfl⟩, (re_line _).trans hsuc, ?_, trivial⟩, ⟨⟨veq0_d rfl, veq0_d rfl, trivial⟩, trivial⟩, rfl⟩
    show VEq0 (vi ((i : Int) + 1)) (vi ((i + 1 : Nat) : Int)); rw [Int.natCast_add]; rfl
  have h4 : (k : Int) < (f.blocks.length : Int) := of_decide_eq_true h4
  have h4 : k < f.blocks.length := by omega
  have ek : ((k : Int).toNat) = k := Int.toNat_natCast k
  have hin2 := hin.blocks _ (getD_mem (d := blk0) h4)
  have hok2 := hok.blocks _ (getD_mem (d := blk0) h4)
  have hnb := hnf _ (getD_mem (d := blk0) h4)
  have hsuc2 := textB_succ h4 (putP acc (fnLine f))
  obtain ⟨b, hbe⟩ : ∃ b, f.blocks.getD k blk0 = b := ⟨_, rfl⟩
  have hbe2 : f.blocks.getD ((k : Int).toNat) blk0 = b := by rw [ek]; exact hbe
  rw [hbe] at hin2 hok2 hnb hsuc2
  have hls2 := blkLine_size hok2.name
  have hnz2 := okN_size hok2.name
  have hfew := hok2.few
  obtain ⟨acc2, hacc2⟩ : ∃ acc2, textB (putP acc (fnLine f)) (f.blocks.take k) = acc2 := ⟨_, rfl⟩
  rw [hacc2] at hsz2 hsuc2 ⊢
  refine x.loop (α := IW b.code.length) (fun y => ⟨[(1, .ptr 0 0), (4, vs (textC (putP acc2 (blkLine b)) (b.code.take y.i))), (6, vi (i : Int)), (7, .ptr 1 0), (8, vi (k : Int)), (9, vi (y.i : Int))], [(0, .box [.d (dArrs p.arrays), .d (dFuns p.funcs)]), (1, .box [vs f.name, .d (dStrs f.params), .d (dBlks f.blocks), vi f.at_])], 2⟩) (fun y => b.code.length - y.i) ⟨0, Nat.zero_le _⟩ rfl (by rw [hbe2]; simp only [AllP, app_size, sz5810]; omega) ⟨⟨⟨rfl, rfl⟩, ?_, rfl, ⟨rfl, rfl⟩, rfl, rfl, trivial⟩, ⟨⟨veq0_d rfl, veq0_d rfl, trivial⟩, ⟨rfl, veq0_d rfl, veq0_d rfl, rfl, trivial⟩, trivial⟩, rfl⟩ (fun y => ?_)
  · show acc2 ++ ((f.blocks.getD ((k : Int).toNat) blk0).name ++ (⟨#[58, 10]⟩ : ByteArray)) = putP acc2 (blkLine b)
    rw [hbe2]
    exact rb_line acc2 b
  obtain ⟨j, hj⟩ := y
  change Go C _ ⟨[(1, .ptr 0 0), (4, vs (textC (putP acc2 (blkLine b)) (b.code.take j))), (6, vi (i : Int)), (7, .ptr 1 0), (8, vi (k : Int)), (9, vi (j : Int))], [(0, .box [.d (dArrs p.arrays), .d (dFuns p.funcs)]), (1, .box [vs f.name, .d (dStrs f.params), .d (dBlks f.blocks), vi f.at_])], 2⟩ _
  have hsz3 := blk_size hok2 hnb j acc2
  refine x.cond rfl (by simp only [AllP]; omega) (fun h6 => ?_) (fun h6 => ?_)
  rotate_left
  · have h6 : ¬ (j : Int) < ((f.blocks.getD ((k : Int).toNat) blk0).code.length : Int) := of_decide_eq_false h6
    rw [hbe2] at h6
    obtain rfl : j = b.code.length := by omega
    rw [List.take_length]
    refine x.back rfl (by simp only [AllP, inI64]; omega) ⟨⟨k + 1, by omega⟩, by show f.blocks.length - (k + 1) < f.blocks.length - k; omega, ⟨⟨rfl, rfl⟩, hsuc2, rfl, ⟨rfl, rfl⟩, ?_, trivial⟩, ⟨⟨veq0_d rfl, veq0_d rfl, trivial⟩, ⟨rfl, veq0_d rfl, veq0_d rfl, rfl, trivial⟩, trivial⟩, rfl⟩
    show VEq0 (vi ((k : Int) + 1)) (vi ((k + 1 : Nat) : Int)); rw [Int.natCast_add]; rfl
  have h6 : (j : Int) < ((f.blocks.getD ((k : Int).toNat) blk0).code.length : Int) := of_decide_eq_true h6
  rw [hbe2] at h6
  have h6 : j < b.code.length := by omega
  have ej : ((j : Int).toNat) = j := Int.toNat_natCast j
  have hin3 := hin2.code _ (getD_mem (d := ins0 0) h6)
  have hok3 := hok2.code _ (getD_mem (d := ins0 0) h6)
  have hni := hnb _ (getD_mem (d := ins0 0) h6)
  have hsuc3 := textC_succ h6 (putP acc2 (blkLine b))
  obtain ⟨q, hqe⟩ : ∃ q, b.code.getD j (ins0 0) = q := ⟨_, rfl⟩
  have hqe2 : (f.blocks.getD ((k : Int).toNat) blk0).code.getD ((j : Int).toNat) (ins0 0) = q := by rw [hbe2, ej]; exact hqe
  rw [hqe] at hin3 hok3 hni hsuc3
  have hlz := line_size (right_small hok3) hni
  refine x.pure rfl (by rw [hbe2]; simp only [AllP]; omega) rfl (show Pure PG _ [insV ((f.blocks.getD ((k : Int).toNat) blk0).code.getD ((j : Int).toNat) (ins0 0))] _ [] from by rw [hqe2]; exact refline_spec q hin3 hok3) ⟨⟨rfl, rfl, rfl, rfl, rfl, veq0_d rfl, veq0_d rfl, rfl, rfl, trivial⟩, trivial⟩ ?_
  refine x.back rfl (by simp only [AllP, inI64, app_size, sz3232, sz10]; omega) ⟨⟨j + 1, by omega⟩, by show b.code.length - (j + 1) < b.code.length - j; omega, ⟨⟨rfl, rfl⟩, (ri_line _ q).trans hsuc3, rfl, ⟨rfl, rfl⟩, rfl, ?_, trivial⟩, ⟨⟨veq0_d rfl, veq0_d rfl, trivial⟩, ⟨rfl, veq0_d rfl, veq0_d rfl, rfl, trivial⟩, trivial⟩, rfl⟩
  show VEq0 (vi ((j : Int) + 1)) (vi ((j + 1 : Nat) : Int)); rw [Int.natCast_add]; rfl
end Go.Proofs.YteeofakohenpoaaGreatDoor

/- A copy of a program. -/
namespace Go.Proofs.YteeofakohenpoaaGreatDoor
open Go.Sx
set_option linter.unusedVariables false
set_option linter.unusedSimpArgs false
set_option maxRecDepth 100000

theorem app_str0 (l : List ByteArray) (i : Nat) : app 0 (tab (List.replicate 0 [D.str .empty])) (fun i => [D.str (l.getD i .empty)]) i = [D.str (l.getD i .empty)] := by
  show (if i < 0 then [] else [D.str (l.getD (i - 0) .empty)]) = _
  rw [if_neg (by omega)]; rfl
theorem app_blk0 (l : List Blk) (i : Nat) : app 0 (tab (List.replicate 0 [D.str .empty, D.sl 0 0 fun x => [], D.int .i64 0])) (fun i => dBlk (l.getD i blk0)) i = dBlk (l.getD i blk0) := by
  show (if i < 0 then [] else dBlk (l.getD (i - 0) blk0)) = _
  rw [if_neg (by omega)]; rfl
theorem app_ins0 (l : List Ins) (i : Nat) : app 0 (tab (List.replicate 0 [D.int .u8 0, D.int .u8 0, D.str .empty, D.str .empty, D.str .empty, D.sl 0 0 fun x => [], D.sl 0 0 fun x => [], D.int .i64 0, D.int .i64 0])) (fun i => dIns (l.getD i (ins0 0))) i = dIns (l.getD i (ins0 0)) := by
  show (if i < 0 then [] else dIns (l.getD (i - 0) (ins0 0))) = _
  rw [if_neg (by omega)]; rfl
theorem dq_strs {n : Nat} {f : Nat → List D} (l : List ByteArray) (hn : n = l.length) (h : ∀ i, i < l.length → f i = [.str (l.getD i .empty)]) : DQ (.sl 1 n f) (dStrs l) := by
  subst hn
  exact .sl _ _ _ _ (fun i hi => by rw [h i hi]) (fun i j d d' hi h1 h2 => by
    rw [h i hi] at h1
    have := h1.symm.trans h2
    cases this; exact .refl _)
theorem put2_id {f : Nat → List D} {i o : Nat} {ds : List D} (h : setL (f i) o ds = some (f i)) (hl : ∀ k l, setL (f k) o ds = some l → l.length = (f k).length) (k : Nat) : put2 f i o ds k = f k := by
  unfold put2
  by_cases e : k = i
  · subst e
    rw [h]
    exact zipIte_pos rfl _ _ rfl
  · cases hs : setL (f k) o ds with
    | none => rfl
    | some l => exact zipIte_neg e _ _ (hl k l hs)
abbrev fnsC (fs : List Fun) : Ch := .vec 29 4 fs.length fun i => dFun (fs.getD i fun0)
set_option maxHeartbeats 8000000 in
theorem copy_spec (p : Prg) (h1 : p.arrays.length ≤ 1000) (h2 : p.funcs.length ≤ 1000) (h3 : ∀ f, f ∈ p.funcs → f.params.length * 16 ≤ okL ∧ f.blocks.length ≤ 1000 ∧ ∀ b, b ∈ f.blocks → b.code.length ≤ 100000 ∧ ∀ x, x ∈ b.code → x.args.length * 16 ≤ okL ∧ x.frm.length * 16 ≤ okL) : Pure PG 6 [prgV p] (prgV p) [] := by
  refine Proc.mk (cfg 93) tysOK [] Tryz.func6 rfl (by kernel_rfl) rfl rfl rfl ?_
  intro C x
  refine x.toLoop rfl (by simp only [AllP, big]; omega) ?_
  refine Sx.Go.freeze 3 ?_
  refine Go.ownB 2 1 29 4 (fun i => dFun (([] : List Fun).getD i fun0)) rfl rfl ?_
  refine x.loop (α := IW p.funcs.length) (fun y => ⟨[(1, .ptr 0 0), (2, .ptr 1 0), (3, .ptr 2 0), (4, vi (y.i : Int))], [(0, .box [.d (dArrs p.arrays), .d (dFuns p.funcs)]), (1, .box [.nils, .nils]), (2, .box [.d (dArrs p.arrays), .own 4]), (4, fnsC (p.funcs.take y.i))], 5⟩) (fun y => p.funcs.length - y.i) ⟨0, Nat.zero_le _⟩ rfl trivial ⟨⟨⟨rfl, rfl⟩, ⟨rfl, rfl⟩, ⟨rfl, rfl⟩, rfl, trivial⟩, ⟨⟨veq0_d rfl, veq0_d rfl, trivial⟩, ⟨trivial, trivial, trivial⟩, ⟨veq0_d rfl, rfl, trivial⟩, ⟨rfl, rfl, rfl, fun i hi => absurd hi (Nat.not_lt_zero _)⟩, trivial⟩, rfl⟩ (fun y => ?_)
  obtain ⟨i, hi⟩ := y
  change Go C _ ⟨[(1, .ptr 0 0), (2, .ptr 1 0), (3, .ptr 2 0), (4, vi (i : Int))], [(0, .box [.d (dArrs p.arrays), .d (dFuns p.funcs)]), (1, .box [.nils, .nils]), (2, .box [.d (dArrs p.arrays), .own 4]), (4, fnsC (p.funcs.take i))], 5⟩ _
  refine x.cond rfl trivial (fun h => ?_) (fun h => ?_)
  rotate_left
  · have h : ¬ (i : Int) < (p.funcs.length : Int) := of_decide_eq_false h
    obtain rfl : i = p.funcs.length := by omega
    rw [List.take_length]
    refine Sx.Go.freeze 4 ?_
    refine x.exit rfl trivial ?_
    exact ⟨.inr rfl, ⟨veq0_d rfl, veq0_d rfl, trivial⟩, trivial, rfl⟩
  have h : (i : Int) < (p.funcs.length : Int) := of_decide_eq_true h
  have h : i < p.funcs.length := by omega
  have hf := h3 _ (getD_mem (d := fun0) h)
  obtain ⟨f, hfe⟩ : ∃ f, p.funcs.getD i fun0 = f := ⟨_, rfl⟩
  have hfe2 : p.funcs.getD ((i : Int).toNat) fun0 = f := by rw [Int.toNat_natCast]; exact hfe
  rw [hfe] at hf
  obtain ⟨f1, f2, f3⟩ := hf
  unfold okL at f1
  refine x.toLoop rfl (by rw [hfe2]; simp only [AllP, big]; omega) ?_
  rw [hfe2]
  refine Sx.Go.freeze 6 ?_
  refine x.loop (α := IW f.blocks.length) (fun y => ⟨[(1, .ptr 0 0), (2, .ptr 1 0), (3, .ptr 2 0), (4, vi (i : Int)), (5, .ptr 5 0), (6, vi (y.i : Int))], [(0, .box [.d (dArrs p.arrays), .d (dFuns p.funcs)]), (1, .box [.nils, .nils]), (2, .box [.d (dArrs p.arrays), .own 4]), (4, fnsC (p.funcs.take i)), (5, .box [vs f.name, .d (dStrs f.params), .own 7, vi f.at_]), (7, blksC f.blocks)], 8⟩) (fun y => f.blocks.length - y.i) ⟨0, Nat.zero_le _⟩ rfl trivial ⟨⟨⟨rfl, rfl⟩, ⟨rfl, rfl⟩, ⟨rfl, rfl⟩, rfl, ⟨rfl, rfl⟩, rfl, trivial⟩, ⟨⟨veq0_d rfl, veq0_d rfl, trivial⟩, ⟨trivial, trivial, trivial⟩, ⟨veq0_d rfl, rfl, trivial⟩, ⟨rfl, rfl, rfl, fun _ _ => rfl⟩, ⟨rfl, ⟨Nat.zero_add _, fun _ => rfl, fun j hj => app_str0 _ j⟩, rfl, rfl, trivial⟩, ⟨rfl, rfl, Nat.zero_add _, fun j hj => app_blk0 _ j⟩, trivial⟩, rfl⟩ (fun y => ?_)
  obtain ⟨k, hk⟩ := y
  change Go C _ ⟨[(1, .ptr 0 0), (2, .ptr 1 0), (3, .ptr 2 0), (4, vi (i : Int)), (5, .ptr 5 0), (6, vi (k : Int))], [(0, .box [.d (dArrs p.arrays), .d (dFuns p.funcs)]), (1, .box [.nils, .nils]), (2, .box [.d (dArrs p.arrays), .own 4]), (4, fnsC (p.funcs.take i)), (5, .box [vs f.name, .d (dStrs f.params), .own 7, vi f.at_]), (7, blksC f.blocks)], 8⟩ _
  refine x.cond rfl trivial (fun h4 => ?_) (fun h4 => ?_)
  rotate_left
  · have h4 : ¬ (k : Int) < (f.blocks.length : Int) := of_decide_eq_false h4
    obtain rfl : k = f.blocks.length := by omega
    refine x.op rfl trivial ?_
    refine Sx.Go.freeze 7 ?_
    refine x.back rfl ?_ ⟨⟨i + 1, by omega⟩, by show p.funcs.length - (i + 1) < p.funcs.length - i; omega, ⟨⟨rfl, rfl⟩, ⟨rfl, rfl⟩, ⟨rfl, rfl⟩, ?_, trivial⟩, ⟨⟨veq0_d rfl, veq0_d rfl, trivial⟩, ⟨trivial, trivial, trivial⟩, ⟨veq0_d rfl, rfl, trivial⟩, ⟨rfl, rfl, ?_, fun z hz => ?_⟩, trivial⟩, rfl⟩
    · have ht : (p.funcs.take i).length ≤ 1000 := by rw [List.length_take]; omega
      simp only [AllP, big, inI64]
      omega
    · show VEq0 (vi ((i : Int) + 1)) (vi ((i + 1 : Nat) : Int)); rw [Int.natCast_add]; rfl
    · show (p.funcs.take i).length + 1 = (p.funcs.take (i + 1)).length
      rw [List.length_take, List.length_take]; omega
    · show _ = dFun ((p.funcs.take (i + 1)).getD z fun0)
      have e : p.funcs.take (i + 1) = p.funcs.take i ++ [f] := by
        rw [List.take_succ_eq_append_getElem h, ← hfe, List.getD_eq_getElem?_getD, List.getElem?_eq_getElem h]; rfl
      rw [e]
      exact app_gen dFun 4 (fun _ => rfl) fun0 (p.funcs.take i) f z hz
  have h4 : (k : Int) < (f.blocks.length : Int) := of_decide_eq_true h4
  have h4 : k < f.blocks.length := by omega
  have hb := f3 _ (getD_mem (d := blk0) h4)
  obtain ⟨b, hbe⟩ : ∃ b, f.blocks.getD k blk0 = b := ⟨_, rfl⟩
  have hbe2 : f.blocks.getD ((k : Int).toNat) blk0 = b := by rw [Int.toNat_natCast]; exact hbe
  rw [hbe] at hb
  obtain ⟨b1, b2⟩ := hb
  refine x.loop (α := IW b.code.length) (fun y => ⟨[(1, .ptr 0 0), (2, .ptr 1 0), (3, .ptr 2 0), (4, vi (i : Int)), (5, .ptr 5 0), (6, vi (k : Int)), (7, .own 8), (8, vi (y.i : Int))], [(0, .box [.d (dArrs p.arrays), .d (dFuns p.funcs)]), (1, .box [.nils, .nils]), (2, .box [.d (dArrs p.arrays), .own 4]), (4, fnsC (p.funcs.take i)), (5, .box [vs f.name, .d (dStrs f.params), .own 7, vi f.at_]), (7, blksC f.blocks), (8, codeC b.code)], 9⟩) (fun y => b.code.length - y.i) ⟨0, Nat.zero_le _⟩ rfl (by rw [hbe2]; simp only [AllP, big]; omega) ⟨⟨⟨rfl, rfl⟩, ⟨rfl, rfl⟩, ⟨rfl, rfl⟩, rfl, ⟨rfl, rfl⟩, rfl, rfl, rfl, trivial⟩, ⟨⟨veq0_d rfl, veq0_d rfl, trivial⟩, ⟨trivial, trivial, trivial⟩, ⟨veq0_d rfl, rfl, trivial⟩, ⟨rfl, rfl, rfl, fun _ _ => rfl⟩, ⟨rfl, veq0_d rfl, rfl, rfl, trivial⟩, ⟨rfl, rfl, rfl, fun _ _ => rfl⟩, ⟨rfl, rfl, ?_, fun j hj => ?_⟩, trivial⟩, rfl⟩ (fun y => ?_)
  · show 0 + (f.blocks.getD ((k : Int).toNat) blk0).code.length = b.code.length
    rw [hbe2, Nat.zero_add]
  · rw [hbe2]
    exact app_ins0 _ j
  obtain ⟨j, hj⟩ := y
  change Go C _ ⟨[(1, .ptr 0 0), (2, .ptr 1 0), (3, .ptr 2 0), (4, vi (i : Int)), (5, .ptr 5 0), (6, vi (k : Int)), (7, .own 8), (8, vi (j : Int))], [(0, .box [.d (dArrs p.arrays), .d (dFuns p.funcs)]), (1, .box [.nils, .nils]), (2, .box [.d (dArrs p.arrays), .own 4]), (4, fnsC (p.funcs.take i)), (5, .box [vs f.name, .d (dStrs f.params), .own 7, vi f.at_]), (7, blksC f.blocks), (8, codeC b.code)], 9⟩ _
  refine x.cond rfl trivial (fun h6 => ?_) (fun h6 => ?_)
  rotate_left
  · have h6 : ¬ (j : Int) < (b.code.length : Int) := of_decide_eq_false h6
    obtain rfl : j = b.code.length := by omega
    refine x.op rfl (by simp only [AllP]; omega) ?_
    refine Sx.Go.freeze 8 ?_
    refine x.back rfl (by simp only [AllP, inI64, List.length_cons, List.length_nil]; omega) ⟨⟨k + 1, by omega⟩, by show f.blocks.length - (k + 1) < f.blocks.length - k; omega, ⟨⟨rfl, rfl⟩, ⟨rfl, rfl⟩, ⟨rfl, rfl⟩, rfl, ⟨rfl, rfl⟩, ?_, trivial⟩, ⟨⟨veq0_d rfl, veq0_d rfl, trivial⟩, ⟨trivial, trivial, trivial⟩, ⟨veq0_d rfl, rfl, trivial⟩, ⟨rfl, rfl, rfl, fun _ _ => rfl⟩, ⟨rfl, veq0_d rfl, rfl, rfl, trivial⟩, ⟨rfl, rfl, rfl, fun z hz => ?_⟩, trivial⟩, rfl⟩
    · show VEq0 (vi ((k : Int) + 1)) (vi ((k + 1 : Nat) : Int)); rw [Int.natCast_add]; rfl
    · rw [Int.toNat_natCast]
      refine put2_id (f := fun i => dBlk (f.blocks.getD i blk0)) ?_ (fun _ _ hs => by cases hs; rfl) z
      show some [D.str (f.blocks.getD k blk0).name, dCode b.code, D.int .i64 (f.blocks.getD k blk0).at_] = some (dBlk (f.blocks.getD k blk0))
      rw [hbe]
  have h6 : (j : Int) < (b.code.length : Int) := of_decide_eq_true h6
  have h6 : j < b.code.length := by omega
  have hx := b2 _ (getD_mem (d := ins0 0) h6)
  obtain ⟨q, hqe⟩ : ∃ q, b.code.getD j (ins0 0) = q := ⟨_, rfl⟩
  have hqe2 : b.code.getD ((j : Int).toNat) (ins0 0) = q := by rw [Int.toNat_natCast]; exact hqe
  rw [hqe] at hx
  unfold okL at hx
  refine x.op rfl (by rw [hqe2]; simp only [AllP, big]; omega) ?_
  refine Sx.Go.freeze 9 ?_
  refine Sx.Go.dq 66 (dStrs q.args) rfl (dq_strs q.args (by rw [hqe2, Nat.zero_add]) fun z hz => by rw [hqe2]; exact app_str0 _ z) ?_
  refine x.op rfl (by rw [hqe2, if_pos rfl]; simp only [AllP, big, List.length_cons, List.length_nil]; omega) ?_
  refine Sx.Go.freeze 10 ?_
  refine Sx.Go.dq 77 (dStrs q.frm) rfl (dq_strs q.frm (by rw [if_pos rfl, hqe2, Nat.zero_add]) fun z hz => by rw [if_pos rfl, hqe2]; exact app_str0 _ z) ?_
  refine x.back rfl (by simp only [AllP, inI64, List.length_cons, List.length_nil]; omega) ⟨⟨j + 1, by omega⟩, by show b.code.length - (j + 1) < b.code.length - j; omega, ⟨⟨rfl, rfl⟩, ⟨rfl, rfl⟩, ⟨rfl, rfl⟩, rfl, ⟨rfl, rfl⟩, rfl, rfl, ?_, trivial⟩, ⟨⟨veq0_d rfl, veq0_d rfl, trivial⟩, ⟨trivial, trivial, trivial⟩, ⟨veq0_d rfl, rfl, trivial⟩, ⟨rfl, rfl, rfl, fun _ _ => rfl⟩, ⟨rfl, veq0_d rfl, rfl, rfl, trivial⟩, ⟨rfl, rfl, rfl, fun _ _ => rfl⟩, ⟨rfl, rfl, rfl, fun z hz => ?_⟩, trivial⟩, rfl⟩
  · show VEq0 (vi ((j : Int) + 1)) (vi ((j + 1 : Nat) : Int)); rw [Int.natCast_add]; rfl
  · rw [Int.toNat_natCast]
    have e1 : put2 (fun i => dIns (b.code.getD i (ins0 0))) j (0 + 5) [dStrs q.args] = fun i => dIns (b.code.getD i (ins0 0)) := funext fun z => put2_id (f := fun i => dIns (b.code.getD i (ins0 0))) (by
      show some [D.int .u8 (b.code.getD j (ins0 0)).kind, _, _, _, _, dStrs q.args, _, _, _] = some (dIns (b.code.getD j (ins0 0)))
      rw [← hqe]) (fun _ _ hs => by cases hs; rfl) z
    rw [e1]
    exact put2_id (f := fun i => dIns (b.code.getD i (ins0 0))) (by
      show some [D.int .u8 (b.code.getD j (ins0 0)).kind, _, _, _, _, _, dStrs q.frm, _, _] = some (dIns (b.code.getD j (ins0 0)))
      rw [← hqe]) (fun _ _ hs => by cases hs; rfl) z
end Go.Proofs.YteeofakohenpoaaGreatDoor

/- What is handed in fits. -/
namespace Go.Proofs.YteeofakohenpoaaGreatDoor
open Go.Sx
set_option linter.unusedVariables false
set_option linter.unusedSimpArgs false

theorem ins_fit {x : Ins} (h : InsOK x) : FitI x := by
  obtain ⟨h1, h2, h3, h4, h5, ⟨h6, h6'⟩, ⟨h7, h7'⟩, h8, h9⟩ := h
  have hr := reachBytes_lt
  have hb : ∀ n : Int, wfB n → 0 ≤ n ∧ n < 256 := fun n hn => by
    unfold wfB at hn
    simp only [Lit.wf, Bool.and_eq_true, decide_eq_true_eq, IntKind.min_u8, IntKind.max_u8] at hn
    omega
  refine ⟨hb _ h1, hb _ h2, h3, h4, h5, by unfold bigN; omega, by unfold bigN; omega, h6', h7', ?_⟩
  have := Sx.wf_i64 h8
  exact this
theorem lens_fit {x : Ins} (h : InsOK x) : x.args.length * 16 ≤ okL ∧ x.frm.length * 16 ≤ okL := by
  have hr := reachBytes_lt
  have h1 := h.args.1
  have h2 := h.frm.1
  unfold okL
  omega
end Go.Proofs.YteeofakohenpoaaGreatDoor

/- Programs that are handed in fit. -/
namespace Go.Proofs.YteeofakohenpoaaGreatDoor
open Go.Sx
set_option linter.unusedVariables false
set_option linter.unusedSimpArgs false

theorem prg_fit {p : Prg} (h : PrgOK p) (ha : p.arrays.length ≤ 1000) (hf : p.funcs.length ≤ 1000) (hb : ∀ f, f ∈ p.funcs → f.blocks.length ≤ 1000 ∧ ∀ b, b ∈ f.blocks → b.code.length ≤ 100000) :
    FitP p ∧ ∀ f, f ∈ p.funcs → f.params.length * 16 ≤ okL ∧ f.blocks.length ≤ 1000 ∧ ∀ b, b ∈ f.blocks → b.code.length ≤ 100000 ∧ ∀ x, x ∈ b.code → x.args.length * 16 ≤ okL ∧ x.frm.length * 16 ≤ okL := by
  have hr := reachBytes_lt
  obtain ⟨⟨_, a2⟩, ⟨_, f2⟩⟩ := h
  refine ⟨⟨by unfold bigL; omega, fun a h => ⟨(a2 a h).name, (a2 a h).level, Sx.wf_i64 (a2 a h).size⟩, by unfold bigL; omega, fun f h => ?_⟩, fun f h => ?_⟩
  · obtain ⟨k1, k2⟩ := hb f h
    have hk := f2 f h
    have hp := hk.params.1
    refine ⟨hk.name, by unfold bigN; omega, hk.params.2, by unfold bigL; omega, fun b hbb => ?_⟩
    have hc := k2 b hbb
    have hbk := hk.blocks.2 b hbb
    exact ⟨hbk.name, by unfold bigL; omega, fun x hx => ins_fit (hbk.code.2 x hx)⟩
  · obtain ⟨k1, k2⟩ := hb f h
    have hk := f2 f h
    have hp := hk.params.1
    exact ⟨by unfold okL; omega, k1, fun b hbb => ⟨k2 b hbb, fun x hx => lens_fit ((hk.blocks.2 b hbb).code.2 x hx)⟩⟩
theorem right_smallP {p : Prg} (h : rightP p = true) : SmallP p := by
  obtain ⟨r1, r2, r3, r4⟩ := right_prg h
  refine ⟨by unfold bigL; omega, by unfold bigL; omega, fun f hf => ?_⟩
  obtain ⟨f1, f2, f3, f4, f5⟩ := r4 f hf
  refine ⟨by unfold bigL; omega, by unfold bigL; omega, fun b hb => ?_⟩
  obtain ⟨b1, b2, b3⟩ := f5 b hb
  refine ⟨by unfold bigL; omega, fun x hx => ?_⟩
  have hs := right_small (b2 x hx)
  have h1 := hs.alen
  have h2 := hs.flen
  exact ⟨by unfold bigL; omega, by unfold bigL; omega⟩
end Go.Proofs.YteeofakohenpoaaGreatDoor

/- The law on programs that are written. -/
namespace Go.Proofs.YteeofakohenpoaaGreatDoor
open Go.Sx
set_option linter.unusedVariables false
set_option linter.unusedSimpArgs false
set_option maxRecDepth 100000

/-- What has been counted: instructions and blocks, each as far as it was looked. -/
structure PW8 (p : Prg) where
  i : Nat
  n : Int
  m : Int
  hi : i ≤ p.funcs.length
  h11 : i ≤ 11
  n0 : 0 ≤ n ∧ n ≤ i * 25000
  m0 : 0 ≤ m ∧ m ≤ i * 41
  blk : m ≤ 40 → ∀ j, j < i → (p.funcs.getD j fun0).blocks.length ≤ 40
  code : n ≤ 600 → ∀ j, j < i → ∀ k, k < (p.funcs.getD j fun0).blocks.length → k < 41 → ((p.funcs.getD j fun0).blocks.getD k blk0).code.length ≤ 600
structure PB8 (f : Fun) (n : Int) where
  k : Nat
  v : Int
  hk : k ≤ f.blocks.length
  h41 : k ≤ 41
  v0 : n ≤ v ∧ v ≤ n + k * 601
  code : v ≤ 600 → ∀ j, j < k → (f.blocks.getD j blk0).code.length ≤ 600
set_option maxHeartbeats 4000000 in
theorem prints_spec (p : Prg) (hp : PrgOK p) : Pure PG 3 [prgV p] (vb true) [] := by
  refine Proc.mk (cfg 109) tysOK [] Tryz.func3 rfl (by kernel_rfl) rfl rfl rfl ?_
  intro C x
  have hr := reachBytes_lt
  have hfl := hp.funcs.1
  have hal := hp.arrays.1
  have hfok := hp.funcs.2
  refine x.loop (α := PW8 p) (fun y => ⟨[(1, .ptr 0 0), (3, vi y.n), (4, vi y.m), (5, vi (y.i : Int))], [(0, .box [.d (dArrs p.arrays), .d (dFuns p.funcs)])], 1⟩) (fun y => p.funcs.length - y.i) ⟨0, 0, 0, Nat.zero_le _, by omega, by omega, by omega, fun _ j hj => by omega, fun _ j hj => by omega⟩ rfl trivial ⟨⟨⟨rfl, rfl⟩, rfl, rfl, rfl, trivial⟩, ⟨⟨veq0_d rfl, veq0_d rfl, trivial⟩, trivial⟩, rfl⟩ (fun y => ?_)
  obtain ⟨i, n, m, hi, h11, n0, m0, hblk, hcode⟩ := y
  change Go C _ ⟨[(1, .ptr 0 0), (3, vi n), (4, vi m), (5, vi (i : Int))], [(0, .box [.d (dArrs p.arrays), .d (dFuns p.funcs)])], 1⟩ _
  refine x.cond rfl trivial (fun h2 => ?_) (fun h2 => ?_)
  · have h2 : (decide ((i : Int) < p.funcs.length) && decide ((i : Int) < 11)) = true := h2
    simp only [Bool.and_eq_true, decide_eq_true_eq] at h2
    have hlt : i < p.funcs.length := by omega
    have hff := hfok _ (getD_mem (d := fun0) hlt)
    obtain ⟨f, hfe⟩ : ∃ f, p.funcs.getD i fun0 = f := ⟨_, rfl⟩
    have hfe2 : p.funcs.getD ((i : Int).toNat) fun0 = f := by rw [Int.toNat_natCast]; exact hfe
    rw [hfe] at hff
    have hbl := hff.blocks.1
    have hm : 0 ≤ (if (41 : Int) < (f.blocks.length : Int) then 41 else (f.blocks.length : Int)) ∧ (if (41 : Int) < (f.blocks.length : Int) then 41 else (f.blocks.length : Int)) ≤ 41 ∧ ((if (41 : Int) < (f.blocks.length : Int) then 41 else (f.blocks.length : Int)) ≤ 40 → f.blocks.length ≤ 40) := by split <;> omega
    obtain ⟨M, hM⟩ : ∃ M, (if (41 : Int) < (f.blocks.length : Int) then 41 else (f.blocks.length : Int)) = M := ⟨_, rfl⟩
    rw [hM] at hm
    refine x.loop (α := PB8 f n) (fun y => ⟨[(1, .ptr 0 0), (3, vi y.v), (4, vi (m + M)), (5, vi (i : Int)), (6, vi (y.k : Int))], [(0, .box [.d (dArrs p.arrays), .d (dFuns p.funcs)])], 1⟩) (fun y => f.blocks.length - y.k) ⟨0, n, Nat.zero_le _, by omega, by omega, fun _ j hj => by omega⟩ rfl ?_ ⟨⟨⟨rfl, rfl⟩, rfl, ?_, rfl, rfl, trivial⟩, ⟨⟨veq0_d rfl, veq0_d rfl, trivial⟩, trivial⟩, rfl⟩ (fun y => ?_)
    · rw [hfe2, hM]
      simp only [AllP, inI64]
      omega
    · show VEq0 (vi (m + if (41 : Int) < ((p.funcs.getD ((i : Int).toNat) fun0).blocks.length : Int) then 41 else ((p.funcs.getD ((i : Int).toNat) fun0).blocks.length : Int))) (vi (m + M))
      rw [hfe2, hM]; rfl
    obtain ⟨k, v, hk, h41, v0, hvc⟩ := y
    change Go C _ ⟨[(1, .ptr 0 0), (3, vi v), (4, vi (m + M)), (5, vi (i : Int)), (6, vi (k : Int))], [(0, .box [.d (dArrs p.arrays), .d (dFuns p.funcs)])], 1⟩ _
    refine x.cond rfl (by simp only [AllP]; omega) (fun h4 => ?_) (fun h4 => ?_)
    · have h4 : (decide ((k : Int) < ((p.funcs.getD ((i : Int).toNat) fun0).blocks.length : Int)) && decide ((k : Int) < 41)) = true := h4
      rw [hfe2] at h4
      simp only [Bool.and_eq_true, decide_eq_true_eq] at h4
      have hkl : k < f.blocks.length := by omega
      have hbb := hff.blocks.2 _ (getD_mem (d := blk0) hkl)
      obtain ⟨b, hbe⟩ : ∃ b, f.blocks.getD k blk0 = b := ⟨_, rfl⟩
      have hbe2 : (p.funcs.getD ((i : Int).toNat) fun0).blocks.getD ((k : Int).toNat) blk0 = b := by rw [hfe2, Int.toNat_natCast]; exact hbe
      rw [hbe] at hbb
      have hcl := hbb.code.1
      have hq : 0 ≤ (if (601 : Int) < (b.code.length : Int) then 601 else (b.code.length : Int)) ∧ (if (601 : Int) < (b.code.length : Int) then 601 else (b.code.length : Int)) ≤ 601 ∧ ((if (601 : Int) < (b.code.length : Int) then 601 else (b.code.length : Int)) ≤ 600 → b.code.length ≤ 600) := by split <;> omega
      obtain ⟨M2, hM2⟩ : ∃ M, (if (601 : Int) < (b.code.length : Int) then 601 else (b.code.length : Int)) = M := ⟨_, rfl⟩
      rw [hM2] at hq
      refine x.back rfl ?_ ⟨⟨k + 1, v + M2, by omega, by omega, by omega, fun hv j hj => ?_⟩, by show f.blocks.length - (k + 1) < f.blocks.length - k; omega, ⟨⟨rfl, rfl⟩, ?_, rfl, rfl, ?_, trivial⟩, ⟨⟨veq0_d rfl, veq0_d rfl, trivial⟩, trivial⟩, rfl⟩
      · rw [hbe2, hfe2, hM2]
        simp only [AllP, inI64]
        omega
      · by_cases e : j = k
        · rw [e, hbe]; exact hq.2.2 (by omega)
        · exact hvc (by omega) j (by omega)
      · show VEq0 (vi (v + if (601 : Int) < (((p.funcs.getD ((i : Int).toNat) fun0).blocks.getD ((k : Int).toNat) blk0).code.length : Int) then 601 else (((p.funcs.getD ((i : Int).toNat) fun0).blocks.getD ((k : Int).toNat) blk0).code.length : Int))) (vi (v + M2))
        rw [hbe2, hM2]; rfl
      · show VEq0 (vi ((k : Int) + 1)) (vi ((k + 1 : Nat) : Int)); rw [Int.natCast_add]; rfl
    · have h4 : (decide ((k : Int) < ((p.funcs.getD ((i : Int).toNat) fun0).blocks.length : Int)) && decide ((k : Int) < 41)) = false := h4
      rw [hfe2] at h4
      have h4 : ¬ ((k : Int) < f.blocks.length ∧ (k : Int) < 41) := fun h => by
        rw [decide_eq_true h.1, decide_eq_true h.2] at h4; cases h4
      refine x.back rfl (by simp only [AllP, inI64]; omega) ⟨⟨i + 1, v, m + M, by omega, by omega, by omega, by omega, fun hv j hj => ?_, fun hv j hj q hq hq2 => ?_⟩, by show p.funcs.length - (i + 1) < p.funcs.length - i; omega, ⟨⟨rfl, rfl⟩, rfl, rfl, ?_, trivial⟩, ⟨⟨veq0_d rfl, veq0_d rfl, trivial⟩, trivial⟩, rfl⟩
      · by_cases e : j = i
        · rw [e, hfe]; exact hm.2.2 (by omega)
        · exact hblk (by omega) j (by omega)
      · by_cases e : j = i
        · rw [e, hfe] at hq ⊢
          exact hvc hv q (by omega)
        · exact hcode (by omega) j (by omega) q hq hq2
      · show VEq0 (vi ((i : Int) + 1)) (vi ((i + 1 : Nat) : Int)); rw [Int.natCast_add]; rfl
  have h2 : (decide ((i : Int) < p.funcs.length) && decide ((i : Int) < 11)) = false := h2
  have h2 : ¬ ((i : Int) < p.funcs.length ∧ (i : Int) < 11) := fun h => by
    rw [decide_eq_true h.1, decide_eq_true h.2] at h2; cases h2
  refine x.cond rfl trivial (fun h3 => ?_) (fun h3 => ?_)
  · refine x.exit rfl trivial ?_
    exact ⟨.inr rfl, rfl, trivial, rfl⟩
  have h3 : (((decide ((600 : Int) < n) || decide ((40 : Int) < m)) || decide ((10 : Int) < p.funcs.length)) || decide ((100 : Int) < p.arrays.length)) = false := h3
  simp only [Bool.or_eq_false_iff, decide_eq_false_iff_not] at h3
  obtain ⟨⟨⟨k1, k2⟩, k3⟩, k4⟩ := h3
  have hsm : ∀ f, f ∈ p.funcs → f.blocks.length ≤ 1000 ∧ ∀ b, b ∈ f.blocks → b.code.length ≤ 100000 := fun f hf => by
    obtain ⟨q, hq, rfl⟩ := List.getElem_of_mem hf
    have e1 := hblk (by omega) q (by omega)
    have e2 := hcode (by omega) q (by omega)
    rw [List.getD_eq_getElem?_getD, List.getElem?_eq_getElem hq] at e1 e2
    dsimp only [Option.getD_some] at e1 e2
    refine ⟨by omega, fun b hb => ?_⟩
    obtain ⟨z, hz, rfl⟩ := List.getElem_of_mem hb
    have e3 := e2 z hz (by omega)
    rw [List.getD_eq_getElem?_getD, List.getElem?_eq_getElem hz] at e3
    dsimp only [Option.getD_some] at e3
    omega
  obtain ⟨hfit, hcp⟩ := prg_fit hp (by omega) (by omega) hsm
  have cp := copy_spec p (by omega) (by omega) hcp
  refine x.pure rfl trivial rfl cp ⟨⟨veq0_d rfl, veq0_d rfl, trivial⟩, trivial⟩ ?_
  refine x.pure rfl trivial rfl (print_spec p hfit) ⟨⟨veq0_d rfl, veq0_d rfl, trivial⟩, trivial⟩ ?_
  refine x.pure rfl trivial rfl (refprint_spec p hfit) ⟨⟨veq0_d rfl, veq0_d rfl, trivial⟩, trivial⟩ ?_
  refine x.draw [] [] [0, 1, 2, 3, 4, 5, 6, 7, 8, 9, 12] [10, 11, 13] [14, 15, 16, 17, 18, 19] rfl trivial mixedP (by kernel_rfl) Ret.noPanic.quiet rfl trivial (fun C1 x1 => ?_)
  refine x1.pureG rfl trivial rfl (fun _ => cp) rfl ⟨⟨veq0_d rfl, veq0_d rfl, trivial⟩, trivial⟩ ?_
  refine x1.back rfl trivial ?_
  refine x1.pureG rfl trivial rfl (fun _ => rightp_spec p hfit) rfl ⟨⟨veq0_d rfl, veq0_d rfl, trivial⟩, trivial⟩ ?_
  refine x1.back rfl trivial ?_
  refine x1.pureG rfl trivial rfl (fun _ => refright_spec p hfit) rfl ⟨⟨veq0_d rfl, veq0_d rfl, trivial⟩, trivial⟩ ?_
  refine x1.back rfl trivial ?_
  refine x.pureG rfl trivial rfl (fun _ => awake8_spec) rfl trivial ?_
  refine x.exit rfl trivial ?_
  refine ⟨.inr rfl, ?_, trivial, rfl⟩
  show (decide ((printP p).2 = (printP p).2) && decide ((printP p).1.data.toList = (printP p).1.data.toList) && (rightP p == rightP p) && true) = true
  simp
end Go.Proofs.YteeofakohenpoaaGreatDoor
