/- Texts put together: T03A, T03B, T03C, T03D, T03E, T07A, T07B, T07C, T07D, T07F, T07G, T07H. -/
import Derived.Test.YtikkppdihepmdaaDoorShelf
import Derived.Test.YtikkppdihepmdaaDoorMA
import Derived.Test.YtikkppdihepmdaaDoorSxE
import Derived.Test.YtikkppdihepmdaaDoorSxF

/- Which bytes are words; signs. (Written by wip/tools/gen03a.py.) -/
namespace Go.Proofs.YtikkppdihepmdaaDoor
open Go.Sx
set_option linter.unusedVariables false
set_option linter.unusedSimpArgs false
set_option maxRecDepth 100000

def wordsL : List (List UInt8) := [[97, 114, 114, 97, 121], [102, 110], [99, 111, 110, 115, 116], [112, 104, 105], [108, 111, 97, 100], [119, 114, 97, 112], [115, 116, 111, 114, 101], [99, 97, 108, 108], [105, 110, 112, 117, 116], [111, 117, 116, 112, 117, 116], [114, 101, 108, 101, 97, 115, 101], [106, 117, 109, 112], [98, 114, 97, 110, 99, 104], [114, 101, 116, 117, 114, 110], [97, 100, 100], [115, 117, 98], [109, 117, 108], [100, 105, 118], [109, 111, 100], [97, 110, 100], [111, 114], [120, 111, 114], [115, 104, 108], [115, 104, 114], [101, 113], [108, 101, 115, 115]]
def wordB (s : ByteArray) : Bool := decide (s.data.toList ∈ wordsL)
theorem word_in {s : ByteArray} {l : List UInt8} (h : s.data.toList = l) (hl : l ∈ wordsL) : wordB s = true := by
  unfold wordB; rw [h]; exact decide_eq_true hl
theorem word_spec (s : ByteArray) : Pure PG 31 [vs s] (vb (wordB s)) [] := by
  refine Proc.mk (cfg 32) tysOK [] Tryd.func31 rfl (by kernel_rfl) rfl rfl rfl ?_
  intro C x
  refine x.cond rfl trivial (fun h => ?_) (fun a0 => ?_)
  · refine x.cond rfl trivial (fun _ => ?_) (fun h2 => ?_)
    · refine x.exit rfl trivial ?_
      refine ⟨.inr rfl, ?_, trivial, rfl⟩
      exact (word_in (of_decide_eq_true h) (l := [97, 114, 114, 97, 121]) (by decide)).symm
    · exact absurd (h.symm.trans h2) (by simp)
  have a0 : ¬ s.data.toList = [97, 114, 114, 97, 121] := of_decide_eq_false a0
  refine x.cond rfl trivial (fun h => ?_) (fun a1 => ?_)
  · refine x.cond rfl trivial (fun _ => ?_) (fun h2 => ?_)
    · refine x.exit rfl trivial ?_
      refine ⟨.inr rfl, ?_, trivial, rfl⟩
      exact (word_in (of_decide_eq_true h) (l := [102, 110]) (by decide)).symm
    · exact absurd (h.symm.trans h2) (by simp)
  have a1 : ¬ s.data.toList = [102, 110] := of_decide_eq_false a1
  refine x.cond rfl trivial (fun h => ?_) (fun a2 => ?_)
  · refine x.cond rfl trivial (fun _ => ?_) (fun h2 => ?_)
    · refine x.exit rfl trivial ?_
      refine ⟨.inr rfl, ?_, trivial, rfl⟩
      exact (word_in (of_decide_eq_true h) (l := [99, 111, 110, 115, 116]) (by decide)).symm
    · exact absurd (h.symm.trans h2) (by simp)
  have a2 : ¬ s.data.toList = [99, 111, 110, 115, 116] := of_decide_eq_false a2
  refine x.cond rfl trivial (fun h => ?_) (fun a3 => ?_)
  · refine x.cond rfl trivial (fun _ => ?_) (fun h2 => ?_)
    · refine x.exit rfl trivial ?_
      refine ⟨.inr rfl, ?_, trivial, rfl⟩
      exact (word_in (of_decide_eq_true h) (l := [112, 104, 105]) (by decide)).symm
    · exact absurd (h.symm.trans h2) (by simp)
  have a3 : ¬ s.data.toList = [112, 104, 105] := of_decide_eq_false a3
  refine x.cond rfl trivial (fun h => ?_) (fun a4 => ?_)
  · refine x.cond rfl trivial (fun _ => ?_) (fun h2 => ?_)
    · refine x.exit rfl trivial ?_
      refine ⟨.inr rfl, ?_, trivial, rfl⟩
      exact (word_in (of_decide_eq_true h) (l := [108, 111, 97, 100]) (by decide)).symm
    · exact absurd (h.symm.trans h2) (by simp)
  have a4 : ¬ s.data.toList = [108, 111, 97, 100] := of_decide_eq_false a4
  refine x.cond rfl trivial (fun h => ?_) (fun a5 => ?_)
  · refine x.cond rfl trivial (fun _ => ?_) (fun h2 => ?_)
    · refine x.exit rfl trivial ?_
      refine ⟨.inr rfl, ?_, trivial, rfl⟩
      exact (word_in (of_decide_eq_true h) (l := [119, 114, 97, 112]) (by decide)).symm
    · exact absurd (h.symm.trans h2) (by simp)
  have a5 : ¬ s.data.toList = [119, 114, 97, 112] := of_decide_eq_false a5
  refine x.cond rfl trivial (fun h => ?_) (fun a6 => ?_)
  · refine x.cond rfl trivial (fun _ => ?_) (fun h2 => ?_)
    · refine x.exit rfl trivial ?_
      refine ⟨.inr rfl, ?_, trivial, rfl⟩
      exact (word_in (of_decide_eq_true h) (l := [115, 116, 111, 114, 101]) (by decide)).symm
    · exact absurd (h.symm.trans h2) (by simp)
  have a6 : ¬ s.data.toList = [115, 116, 111, 114, 101] := of_decide_eq_false a6
  refine x.cond rfl trivial (fun h => ?_) (fun a7 => ?_)
  · refine x.cond rfl trivial (fun _ => ?_) (fun h2 => ?_)
    · refine x.exit rfl trivial ?_
      refine ⟨.inr rfl, ?_, trivial, rfl⟩
      exact (word_in (of_decide_eq_true h) (l := [99, 97, 108, 108]) (by decide)).symm
    · exact absurd (h.symm.trans h2) (by simp)
  have a7 : ¬ s.data.toList = [99, 97, 108, 108] := of_decide_eq_false a7
  refine x.cond rfl trivial (fun h => ?_) (fun a8 => ?_)
  · refine x.cond rfl trivial (fun _ => ?_) (fun h2 => ?_)
    · refine x.exit rfl trivial ?_
      refine ⟨.inr rfl, ?_, trivial, rfl⟩
      exact (word_in (of_decide_eq_true h) (l := [105, 110, 112, 117, 116]) (by decide)).symm
    · exact absurd (h.symm.trans h2) (by simp)
  have a8 : ¬ s.data.toList = [105, 110, 112, 117, 116] := of_decide_eq_false a8
  refine x.cond rfl trivial (fun h => ?_) (fun a9 => ?_)
  · refine x.cond rfl trivial (fun _ => ?_) (fun h2 => ?_)
    · refine x.exit rfl trivial ?_
      refine ⟨.inr rfl, ?_, trivial, rfl⟩
      exact (word_in (of_decide_eq_true h) (l := [111, 117, 116, 112, 117, 116]) (by decide)).symm
    · exact absurd (h.symm.trans h2) (by simp)
  have a9 : ¬ s.data.toList = [111, 117, 116, 112, 117, 116] := of_decide_eq_false a9
  refine x.cond rfl trivial (fun h => ?_) (fun a10 => ?_)
  · refine x.cond rfl trivial (fun _ => ?_) (fun h2 => ?_)
    · refine x.exit rfl trivial ?_
      refine ⟨.inr rfl, ?_, trivial, rfl⟩
      exact (word_in (of_decide_eq_true h) (l := [114, 101, 108, 101, 97, 115, 101]) (by decide)).symm
    · exact absurd (h.symm.trans h2) (by simp)
  have a10 : ¬ s.data.toList = [114, 101, 108, 101, 97, 115, 101] := of_decide_eq_false a10
  refine x.cond rfl trivial (fun h => ?_) (fun a11 => ?_)
  · refine x.cond rfl trivial (fun _ => ?_) (fun h2 => ?_)
    · refine x.exit rfl trivial ?_
      refine ⟨.inr rfl, ?_, trivial, rfl⟩
      exact (word_in (of_decide_eq_true h) (l := [106, 117, 109, 112]) (by decide)).symm
    · exact absurd (h.symm.trans h2) (by simp)
  have a11 : ¬ s.data.toList = [106, 117, 109, 112] := of_decide_eq_false a11
  refine x.cond rfl trivial (fun h => ?_) (fun a12 => ?_)
  · refine x.cond rfl trivial (fun _ => ?_) (fun h2 => ?_)
    · refine x.exit rfl trivial ?_
      refine ⟨.inr rfl, ?_, trivial, rfl⟩
      exact (word_in (of_decide_eq_true h) (l := [98, 114, 97, 110, 99, 104]) (by decide)).symm
    · exact absurd (h.symm.trans h2) (by simp)
  have a12 : ¬ s.data.toList = [98, 114, 97, 110, 99, 104] := of_decide_eq_false a12
  refine x.cond rfl trivial (fun h => ?_) (fun a13 => ?_)
  · refine x.exit rfl trivial ?_
    refine ⟨.inr rfl, ?_, trivial, rfl⟩
    exact (word_in (of_decide_eq_true h) (l := [114, 101, 116, 117, 114, 110]) (by decide)).symm
  have a13 : ¬ s.data.toList = [114, 101, 116, 117, 114, 110] := of_decide_eq_false a13
  refine x.cond rfl trivial (fun h => ?_) (fun b0 => ?_)
  · refine x.cond rfl trivial (fun _ => ?_) (fun h2 => ?_)
    · refine x.exit rfl trivial ?_
      refine ⟨.inr rfl, ?_, trivial, rfl⟩
      exact (word_in (of_decide_eq_true h) (l := [97, 100, 100]) (by decide)).symm
    · exact absurd (h.symm.trans h2) (by simp)
  have b0 : ¬ s.data.toList = [97, 100, 100] := of_decide_eq_false b0
  refine x.cond rfl trivial (fun h => ?_) (fun b1 => ?_)
  · refine x.cond rfl trivial (fun _ => ?_) (fun h2 => ?_)
    · refine x.exit rfl trivial ?_
      refine ⟨.inr rfl, ?_, trivial, rfl⟩
      exact (word_in (of_decide_eq_true h) (l := [115, 117, 98]) (by decide)).symm
    · exact absurd (h.symm.trans h2) (by simp)
  have b1 : ¬ s.data.toList = [115, 117, 98] := of_decide_eq_false b1
  refine x.cond rfl trivial (fun h => ?_) (fun b2 => ?_)
  · refine x.cond rfl trivial (fun _ => ?_) (fun h2 => ?_)
    · refine x.exit rfl trivial ?_
      refine ⟨.inr rfl, ?_, trivial, rfl⟩
      exact (word_in (of_decide_eq_true h) (l := [109, 117, 108]) (by decide)).symm
    · exact absurd (h.symm.trans h2) (by simp)
  have b2 : ¬ s.data.toList = [109, 117, 108] := of_decide_eq_false b2
  refine x.cond rfl trivial (fun h => ?_) (fun b3 => ?_)
  · refine x.cond rfl trivial (fun _ => ?_) (fun h2 => ?_)
    · refine x.exit rfl trivial ?_
      refine ⟨.inr rfl, ?_, trivial, rfl⟩
      exact (word_in (of_decide_eq_true h) (l := [100, 105, 118]) (by decide)).symm
    · exact absurd (h.symm.trans h2) (by simp)
  have b3 : ¬ s.data.toList = [100, 105, 118] := of_decide_eq_false b3
  refine x.cond rfl trivial (fun h => ?_) (fun b4 => ?_)
  · refine x.cond rfl trivial (fun _ => ?_) (fun h2 => ?_)
    · refine x.exit rfl trivial ?_
      refine ⟨.inr rfl, ?_, trivial, rfl⟩
      exact (word_in (of_decide_eq_true h) (l := [109, 111, 100]) (by decide)).symm
    · exact absurd (h.symm.trans h2) (by simp)
  have b4 : ¬ s.data.toList = [109, 111, 100] := of_decide_eq_false b4
  refine x.cond rfl trivial (fun h => ?_) (fun b5 => ?_)
  · refine x.cond rfl trivial (fun _ => ?_) (fun h2 => ?_)
    · refine x.exit rfl trivial ?_
      refine ⟨.inr rfl, ?_, trivial, rfl⟩
      exact (word_in (of_decide_eq_true h) (l := [97, 110, 100]) (by decide)).symm
    · exact absurd (h.symm.trans h2) (by simp)
  have b5 : ¬ s.data.toList = [97, 110, 100] := of_decide_eq_false b5
  refine x.cond rfl trivial (fun h => ?_) (fun b6 => ?_)
  · refine x.cond rfl trivial (fun _ => ?_) (fun h2 => ?_)
    · refine x.exit rfl trivial ?_
      refine ⟨.inr rfl, ?_, trivial, rfl⟩
      exact (word_in (of_decide_eq_true h) (l := [111, 114]) (by decide)).symm
    · exact absurd (h.symm.trans h2) (by simp)
  have b6 : ¬ s.data.toList = [111, 114] := of_decide_eq_false b6
  refine x.cond rfl trivial (fun h => ?_) (fun b7 => ?_)
  · refine x.cond rfl trivial (fun _ => ?_) (fun h2 => ?_)
    · refine x.exit rfl trivial ?_
      refine ⟨.inr rfl, ?_, trivial, rfl⟩
      exact (word_in (of_decide_eq_true h) (l := [120, 111, 114]) (by decide)).symm
    · exact absurd (h.symm.trans h2) (by simp)
  have b7 : ¬ s.data.toList = [120, 111, 114] := of_decide_eq_false b7
  refine x.cond rfl trivial (fun h => ?_) (fun b8 => ?_)
  · refine x.cond rfl trivial (fun _ => ?_) (fun h2 => ?_)
    · refine x.exit rfl trivial ?_
      refine ⟨.inr rfl, ?_, trivial, rfl⟩
      exact (word_in (of_decide_eq_true h) (l := [115, 104, 108]) (by decide)).symm
    · exact absurd (h.symm.trans h2) (by simp)
  have b8 : ¬ s.data.toList = [115, 104, 108] := of_decide_eq_false b8
  refine x.cond rfl trivial (fun h => ?_) (fun b9 => ?_)
  · refine x.cond rfl trivial (fun _ => ?_) (fun h2 => ?_)
    · refine x.exit rfl trivial ?_
      refine ⟨.inr rfl, ?_, trivial, rfl⟩
      exact (word_in (of_decide_eq_true h) (l := [115, 104, 114]) (by decide)).symm
    · exact absurd (h.symm.trans h2) (by simp)
  have b9 : ¬ s.data.toList = [115, 104, 114] := of_decide_eq_false b9
  refine x.cond rfl trivial (fun h => ?_) (fun b10 => ?_)
  · refine x.cond rfl trivial (fun _ => ?_) (fun h2 => ?_)
    · refine x.exit rfl trivial ?_
      refine ⟨.inr rfl, ?_, trivial, rfl⟩
      exact (word_in (of_decide_eq_true h) (l := [101, 113]) (by decide)).symm
    · exact absurd (h.symm.trans h2) (by simp)
  have b10 : ¬ s.data.toList = [101, 113] := of_decide_eq_false b10
  refine x.cond rfl trivial (fun h => ?_) (fun b11 => ?_)
  · refine x.exit rfl trivial ?_
    refine ⟨.inr rfl, ?_, trivial, rfl⟩
    exact (word_in (of_decide_eq_true h) (l := [108, 101, 115, 115]) (by decide)).symm
  have b11 : ¬ s.data.toList = [108, 101, 115, 115] := of_decide_eq_false b11
  refine x.exit rfl trivial ?_
  refine ⟨.inr rfl, ?_, trivial, rfl⟩
  show false = wordB s
  rw [eq_comm]
  unfold wordB wordsL
  rw [decide_eq_false_iff_not]
  simp only [List.mem_cons, List.not_mem_nil, or_false, not_or]
  exact ⟨a0, a1, a2, a3, a4, a5, a6, a7, a8, a9, a10, a11, a12, a13, b0, b1, b2, b3, b4, b5, b6, b7, b8, b9, b10, b11⟩

/-! ### the answer's words -/
def wordStr : List ByteArray := [⟨#[97, 114, 114, 97, 121]⟩, ⟨#[102, 110]⟩, ⟨#[99, 111, 110, 115, 116]⟩, ⟨#[112, 104, 105]⟩, ⟨#[108, 111, 97, 100]⟩, ⟨#[119, 114, 97, 112]⟩, ⟨#[115, 116, 111, 114, 101]⟩, ⟨#[99, 97, 108, 108]⟩, ⟨#[105, 110, 112, 117, 116]⟩, ⟨#[111, 117, 116, 112, 117, 116]⟩, ⟨#[114, 101, 108, 101, 97, 115, 101]⟩, ⟨#[106, 117, 109, 112]⟩, ⟨#[98, 114, 97, 110, 99, 104]⟩, ⟨#[114, 101, 116, 117, 114, 110]⟩, ⟨#[97, 100, 100]⟩, ⟨#[115, 117, 98]⟩, ⟨#[109, 117, 108]⟩, ⟨#[100, 105, 118]⟩, ⟨#[109, 111, 100]⟩, ⟨#[97, 110, 100]⟩, ⟨#[111, 114]⟩, ⟨#[120, 111, 114]⟩, ⟨#[115, 104, 108]⟩, ⟨#[115, 104, 114]⟩, ⟨#[101, 113]⟩, ⟨#[108, 101, 115, 115]⟩]
theorem word_str (s : ByteArray) : wordB s = true ↔ ∃ i, i < 26 ∧ s.data.toList = (wordStr.getD i .empty).data.toList := by
  unfold wordB
  rw [decide_eq_true_eq]
  constructor
  · intro h
    obtain ⟨i, hi, e⟩ := List.getElem_of_mem h
    have hi : i < 26 := hi
    refine ⟨i, hi, ?_⟩
    rw [← e]
    have : ∀ i, (h : i < wordsL.length) → wordsL[i] = (wordStr.getD i .empty).data.toList := by decide
    exact this i hi
  · rintro ⟨i, hi, e⟩
    rw [e]
    have : ∀ i, i < 26 → (wordStr.getD i .empty).data.toList ∈ wordsL := by decide
    exact this i hi
theorem tab_map (l : List ByteArray) (h : l.length ≠ 1) {i : Nat} (hi : i < l.length) : tab (l.map fun w => [D.str w]) i = [D.str (l.getD i .empty)] := by
  match l, h with
  | [], _ => exact absurd hi (Nat.not_lt_zero _)
  | [_], h => exact absurd rfl h
  | a :: b :: r, _ =>
    show ((a :: b :: r).map fun w => [D.str w]).getD i [] = _
    rw [List.getD_eq_getElem?_getD, List.getElem?_map, List.getElem?_eq_getElem hi, List.getD_eq_getElem?_getD, List.getElem?_eq_getElem hi]; rfl
theorem refword_spec (s : ByteArray) : Pure PG 68 [vs s] (vb (wordB s)) [] := by
  refine Proc.mk (cfg 18) tysOK [] Tryd.func68 rfl (by kernel_rfl) rfl rfl rfl ?_
  intro C x
  refine x.toLoop rfl ?_ ?_
  · simp only [AllP, big]
  refine x.le (s' := ⟨[(0, vs s), (3, .own 0), (4, vi 0)], [(0, .vec 9 1 26 fun i => [.str (wordStr.getD i .empty)])], 1⟩) ?_ ?_
  · refine ⟨⟨rfl, rfl, rfl, trivial⟩, ⟨⟨rfl, rfl, rfl, fun i hi => ?_⟩, trivial⟩, rfl⟩
    exact tab_map wordStr (by decide) hi
  refine Sx.Go.freeze 0 ?_
  refine x.loop (α := { i : Nat // i ≤ 26 ∧ ∀ j, j < i → s.data.toList ≠ (wordStr.getD j .empty).data.toList }) (fun y => ⟨[(0, vs s), (3, .d (.sl 1 26 fun i => [.str (wordStr.getD i .empty)])), (4, vi (y.1 : Int))], [], 1⟩) (fun y => 26 - y.1) ⟨0, by omega, fun j hj => by omega⟩ rfl trivial ⟨⟨rfl, veq_d rfl, rfl, trivial⟩, trivial, rfl⟩ (fun y => ?_)
  obtain ⟨i, hi, hno⟩ := y
  change Go C _ ⟨[(0, vs s), (3, .d (.sl 1 26 fun i => [.str (wordStr.getD i .empty)])), (4, vi (i : Int))], [], 1⟩ _
  refine x.cond rfl trivial (fun h1 => ?_) (fun h1 => ?_)
  · have h1 : i < 26 := by have := of_decide_eq_true h1; omega
    refine x.cond rfl ?_ (fun h2 => ?_) (fun h2 => ?_)
    · simp only [AllP]; omega
    · have h2 : (wordStr.getD i .empty).data.toList = s.data.toList := of_decide_eq_true h2
      refine x.exit rfl trivial ?_
      refine ⟨.inr rfl, ?_, trivial, rfl⟩
      exact ((word_str s).2 ⟨i, h1, h2.symm⟩).symm
    · have h2 : ¬ (wordStr.getD i .empty).data.toList = s.data.toList := of_decide_eq_false h2
      refine x.back rfl (show inI64 _ by unfold inI64; omega) ⟨⟨i + 1, by omega, fun j hj => ?_⟩, by show 26 - (i + 1) < 26 - i; omega, ⟨rfl, veq_d rfl, rfl, trivial⟩, trivial, rfl⟩
      by_cases e : j = i
      · rw [e]; exact fun h => h2 h.symm
      · exact hno j (by omega)
  · have h1 : i = 26 := by have := of_decide_eq_false h1; omega
    refine x.exit rfl trivial ?_
    refine ⟨.inr rfl, ?_, trivial, rfl⟩
    show false = wordB s
    rw [eq_comm, Bool.eq_false_iff, Ne, word_str]
    rintro ⟨j, hj, e⟩
    exact hno j (by omega) e

/-! ### signs, digits -/
def signB (c : Nat) : Bool := (((((((decide (c = 40) || decide (c = 41)) || decide (c = 123)) || decide (c = 125)) || decide (c = 91)) || decide (c = 93)) || decide (c = 44)) || decide (c = 58)) || decide (c = 61)
theorem dec_nat (c k : Nat) : decide ((c : Int) = (k : Int)) = decide (c = k) := by
  rw [Bool.eq_iff_iff, decide_eq_true_eq, decide_eq_true_eq]; omega
theorem sign_spec (c : Nat) : Pure PG 64 [.d (.int .u8 (c : Int))] (vb (signB c)) [] := by
  refine Proc.mk (cfg 37) tysOK [] Tryd.func64 rfl (by kernel_rfl) rfl rfl rfl ?_
  intro C x
  refine x.exit rfl trivial ?_
  refine ⟨.inr rfl, ?_, trivial, rfl⟩
  show ((((((((decide ((c : Int) = (40 : Nat)) || decide ((c : Int) = (41 : Nat))) || decide ((c : Int) = (123 : Nat))) || decide ((c : Int) = (125 : Nat))) || decide ((c : Int) = (91 : Nat))) || decide ((c : Int) = (93 : Nat))) || decide ((c : Int) = (44 : Nat))) || decide ((c : Int) = (58 : Nat))) || decide ((c : Int) = (61 : Nat))) = signB c
  unfold signB
  simp only [dec_nat]
def digAt (s : ByteArray) (p : Nat) : Bool := decide (p < s.size) && (decide (48 ≤ bt s p) && decide (bt s p ≤ 57))
theorem digit3_spec (s : ByteArray) (p : Nat) : Pure PG 65 [vs s, vi (p : Int)] (vb (digAt s p)) [] := by
  refine Proc.mk (cfg 21) tysOK [] Tryd.func65 rfl (by kernel_rfl) rfl rfl rfl ?_
  intro C x
  refine x.exit rfl ?_ ?_
  · simp only [AllP, Bool.and_eq_true, decide_eq_true_eq]
    refine ⟨fun h => ⟨by omega, by omega⟩, fun h => ⟨by omega, by omega⟩⟩
  refine ⟨.inr rfl, ?_, trivial, rfl⟩
  show ((decide ((p : Int) < s.size) && decide (48 ≤ sb s ((p : Int)).toNat)) && decide (sb s ((p : Int)).toNat ≤ 57)) = digAt s p
  unfold digAt
  rw [Int.toNat_natCast, sb_bt, Bool.eq_iff_iff]
  simp only [Bool.and_eq_true, decide_eq_true_eq]
  omega
theorem indexByte_spec (s : ByteArray) (c : Int) : Pure PG 28 [vs s, .d (.int .u8 c)] (vi (Lib.indexByte s.data.toList c.toNat.toUInt8)) [] :=
  Pure.ofLib (vals := [.string s, .int .u8 c]) (callable_of Tryd.func28 (by kernel_rfl) (by kernel_rfl)) rfl rfl rfl rfl fun w F hE => (Tryd.strings_IndexByte s c w).mono fun e w' ⟨h1, h2⟩ => ⟨h1, by subst h2; exact Go.RowKit.Below.refl _ _⟩
theorem idx_some {c : UInt8} : ∀ {l : List UInt8}, 0 ≤ Lib.indexByte l c → (Lib.indexByte l c).toNat < l.length ∧ l.getD (Lib.indexByte l c).toNat 0 = c ∧ ∀ j, j < (Lib.indexByte l c).toNat → l.getD j 0 ≠ c
  | [], h => by exact absurd h (by unfold Lib.indexByte; omega)
  | b :: l, h => by
    unfold Lib.indexByte at h ⊢
    split at h
    · rename_i hb
      rw [if_pos hb]
      refine ⟨by simp, by simpa using hb, fun j hj => absurd hj (Nat.not_lt_zero _)⟩
    · rename_i hb
      rw [if_neg hb]
      split at h
      · omega
      · rename_i h2
        rw [if_neg h2]
        have hge := Lib.indexByte_ge l c
        have h2 : ¬ Lib.indexByte l c = -1 := by simpa using h2
        obtain ⟨h3, h4, h5⟩ := idx_some (l := l) (c := c) (by omega)
        have e : (Lib.indexByte l c + 1).toNat = (Lib.indexByte l c).toNat + 1 := by omega
        rw [e]
        refine ⟨by simpa using h3, by simpa using h4, fun j hj => ?_⟩
        match j with
        | 0 => simpa using hb
        | j + 1 => simpa using h5 j (by omega)
theorem idx_none {c : UInt8} : ∀ {l : List UInt8}, Lib.indexByte l c < 0 → ∀ j, j < l.length → l.getD j 0 ≠ c
  | [], h, j, hj => absurd hj (Nat.not_lt_zero _)
  | b :: l, h, j, hj => by
    unfold Lib.indexByte at h
    split at h
    · omega
    · rename_i hb
      split at h
      · rename_i h2
        have h2 : Lib.indexByte l c = -1 := by simpa using h2
        match j with
        | 0 => simpa using hb
        | j + 1 => simpa using idx_none (l := l) (c := c) (by omega) j (by simpa using hj)
      · have hge := Lib.indexByte_ge l c
        rename_i h2
        have h2 : ¬ Lib.indexByte l c = -1 := by simpa using h2
        omega
end Go.Proofs.YtikkppdihepmdaaDoor

/- Blanks and remarks are passed over. -/
namespace Go.Proofs.YtikkppdihepmdaaDoor
open Go.Sx
set_option linter.unusedVariables false
set_option linter.unusedSimpArgs false
set_option maxRecDepth 100000

def nextR (c : Nat) (rm : Bool) : Bool := if c = 10 then false else if c = 35 then true else rm
def stopB (rm : Bool) (c : Nat) : Bool := ((!rm && !decide (c = 32)) && !decide (c = 9)) && !decide (c = 10)
def skF (s : ByteArray) : Nat → Bool → Nat → Nat
  | 0, _, p => p
  | n + 1, rm, p => if p < s.size then (if stopB (nextR (bt s p) rm) (bt s p) then p else skF s n (nextR (bt s p) rm) (p + 1)) else p
theorem skF_fuel (s : ByteArray) : ∀ (n m : Nat) (rm : Bool) (p : Nat), s.size ≤ p + n → s.size ≤ p + m → skF s n rm p = skF s m rm p
  | 0, 0, _, _, _, _ => rfl
  | 0, m + 1, rm, p, h, _ => by rw [skF, skF, if_neg (by omega)]
  | n + 1, 0, rm, p, _, h => by rw [skF, skF, if_neg (by omega)]
  | n + 1, m + 1, rm, p, h1, h2 => by
    rw [skF, skF]
    split
    · split
      · rfl
      · exact skF_fuel s n m _ _ (by omega) (by omega)
    · rfl
/-- Where one stands when blanks and remarks are passed over. -/
def skV (s : ByteArray) (rm : Bool) (p : Nat) : Nat := skF s s.size rm p
theorem skV_end {s : ByteArray} {rm : Bool} {p : Nat} (h : s.size ≤ p) : skV s rm p = p := by
  unfold skV
  rw [skF_fuel s s.size 0 rm p (by omega) (by omega), skF]
theorem skV_step {s : ByteArray} {rm : Bool} {p : Nat} (h : p < s.size) : skV s rm p = if stopB (nextR (bt s p) rm) (bt s p) then p else skV s (nextR (bt s p) rm) (p + 1) := by
  unfold skV
  obtain ⟨n, hn⟩ : ∃ n, s.size = n + 1 := ⟨s.size - 1, by omega⟩
  rw [skF_fuel s s.size (n + 1) rm p (by omega) (by omega), skF, if_pos h, skF_fuel s n s.size _ (p + 1) (by omega) (by omega)]
theorem skV_go {s : ByteArray} {rm : Bool} {p : Nat} (h : p < s.size) (hs : stopB (nextR (bt s p) rm) (bt s p) = false) : skV s rm p = skV s (nextR (bt s p) rm) (p + 1) := by
  rw [skV_step h, if_neg (by rw [hs]; simp)]
theorem skV_stop {s : ByteArray} {rm : Bool} {p : Nat} (h : p < s.size) (hs : stopB (nextR (bt s p) rm) (bt s p) = true) : skV s rm p = p := by
  rw [skV_step h, if_pos hs]
theorem skV_le (s : ByteArray) : ∀ (n : Nat) (rm : Bool) (p : Nat), s.size ≤ p + n → p ≤ s.size → p ≤ skV s rm p ∧ skV s rm p ≤ s.size ∧ (skV s rm p < s.size → stopB false (bt s (skV s rm p)) = true ∧ bt s (skV s rm p) ≠ 35)
  | 0, rm, p, h, hp => by rw [skV_end (by omega)]; exact ⟨by omega, hp, fun h => by omega⟩
  | n + 1, rm, p, h, hp => by
    by_cases hl : p < s.size
    · cases hs : stopB (nextR (bt s p) rm) (bt s p) with
      | true =>
        rw [skV_stop hl hs]
        refine ⟨Nat.le_refl _, hp, fun _ => ?_⟩
        unfold stopB at hs
        simp only [Bool.and_eq_true, Bool.not_eq_true', decide_eq_false_iff_not] at hs
        obtain ⟨⟨⟨h1, h2⟩, h3⟩, h4⟩ := hs
        refine ⟨?_, fun e => ?_⟩
        · unfold stopB; simp [h2, h3, h4]
        · rw [e] at h1; simp [nextR] at h1
      | false =>
        rw [skV_go hl hs]
        have := skV_le s n (nextR (bt s p) rm) (p + 1) (by omega) (by omega)
        exact ⟨by omega, this.2.1, this.2.2⟩
    · rw [skV_end (by omega)]; exact ⟨by omega, hp, fun h => by omega⟩
/-- Behind a remark's end. -/
theorem skV_remark (s : ByteArray) : ∀ (k p : Nat), p + k < s.size → bt s (p + k) = 10 → (∀ j, j < k → bt s (p + j) ≠ 10) → skV s true p = skV s false (p + k + 1)
  | 0, p, h, h10, _ => by
    have h10 : bt s p = 10 := h10
    have h : p < s.size := h
    rw [skV_go h (by rw [h10]; rfl), h10]; rfl
  | k + 1, p, h, h10, hno => by
    have h0 : bt s p ≠ 10 := hno 0 (by omega)
    have e : nextR (bt s p) true = true := by unfold nextR; rw [if_neg h0]; split <;> rfl
    rw [skV_go (by omega) (by rw [e]; rfl), e, skV_remark s k (p + 1) (by omega) (by rw [← h10]; congr 1; omega) (fun j hj => by rw [show p + 1 + j = p + (j + 1) by omega]; exact hno (j + 1) (by omega))]
    congr 1
    omega
theorem skV_remark_end (s : ByteArray) : ∀ (n p : Nat), s.size ≤ p + n → p ≤ s.size → (∀ j, p ≤ j → j < s.size → bt s j ≠ 10) → skV s true p = s.size
  | 0, p, h, hp, _ => by rw [skV_end (by omega)]; omega
  | n + 1, p, h, hp, hno => by
    by_cases hl : p < s.size
    · have h0 := hno p (Nat.le_refl _) hl
      have e : nextR (bt s p) true = true := by unfold nextR; rw [if_neg h0]; split <;> rfl
      rw [skV_go hl (by rw [e]; rfl), e]
      exact skV_remark_end s n (p + 1) (by omega) (by omega) fun j h1 h2 => hno j (by omega) h2
    · rw [skV_end (by omega)]; omega

theorem skip_spec (s : ByteArray) (p0 : Nat) (hs : s.size ≤ 9223372036854775807) (hp0 : p0 ≤ s.size) : Pure PG 27 [vs s, vi (p0 : Int)] (vi (skV s false p0 : Int)) [] := by
  refine Proc.mk (cfg 34) tysOK [] Tryd.func27 rfl (by kernel_rfl) rfl rfl rfl ?_
  intro C x
  refine x.loop (α := { p : Nat // p ≤ s.size ∧ skV s false p = skV s false p0 }) (fun y => ⟨[(0, vs s), (1, vi (y.1 : Int))], [], 0⟩) (fun y => s.size - y.1) ⟨p0, hp0, rfl⟩ rfl trivial ⟨⟨rfl, rfl, trivial⟩, trivial, rfl⟩ (fun y => ?_)
  obtain ⟨p, hp, same⟩ := y
  change Go C _ ⟨[(0, vs s), (1, vi (p : Int))], [], 0⟩ _
  refine x.cond rfl trivial (fun h1 => ?_) (fun h1 => ?_)
  · have h1 : p < s.size := by have := of_decide_eq_true h1; omega
    have ec : sb s ((p : Int)).toNat = (bt s p : Int) := sb_bt s p
    refine x.cond rfl ?_ (fun h2 => ?_) (fun h2 => ?_)
    · simp only [AllP]; omega
    · have h2 : bt s p = 35 := by have h2 : sb s ((p : Int)).toNat = 35 := of_decide_eq_true h2; omega
      have e1 : nextR (bt s p) false = true := by rw [h2]; rfl
      have g1 := skV_go (rm := false) h1 (by rw [e1, h2]; rfl)
      rw [e1] at g1
      refine x.pure rfl ?_ rfl (indexByte_spec (s.extract p s.size) 10) ⟨rfl, rfl, trivial⟩ ?_
      · simp only [AllP]; omega
      obtain ⟨n, hn⟩ : ∃ n, Lib.indexByte (s.extract p s.size).data.toList (10 : Int).toNat.toUInt8 = n := ⟨_, rfl⟩
      rw [hn]
      have hlen : (s.extract p s.size).data.toList.length = s.size - p := by
        rw [extract_data, List.length_drop, ← size_list]
      have hbt : ∀ j, ((s.extract p s.size).data.toList.getD j 0).toNat = bt s (p + j) := fun j => by rw [← bt_getD, bt_extract]
      refine x.cond rfl trivial (fun h3 => ?_) (fun h3 => ?_)
      · have h3 : n < 0 := of_decide_eq_true h3
        have hno := idx_none (by rw [hn]; exact h3)
        refine x.exit rfl trivial ?_
        refine ⟨.inr rfl, ?_, trivial, rfl⟩
        show (s.size : Int) = (skV s false p0 : Int)
        rw [← same, g1, skV_remark_end s s.size (p + 1) (by omega) (by omega)]
        intro j hj1 hj2 e
        refine hno (j - p) (by omega) ?_
        have := hbt (j - p)
        rw [show p + (j - p) = j by omega, e] at this
        exact UInt8.toNat_inj.1 this
      · have h3 : 0 ≤ n := by have := of_decide_eq_false h3; omega
        obtain ⟨a1, a2, a3⟩ := idx_some (by rw [hn]; exact h3)
        rw [hn] at a1 a2 a3
        have b2 : bt s (p + n.toNat) = 10 := by rw [← hbt, a2]; rfl
        have b3 : ∀ j, j < n.toNat → bt s (p + j) ≠ 10 := fun j hj e => by
          refine a3 j hj ?_
          have := hbt j
          rw [e] at this
          exact UInt8.toNat_inj.1 this
        have hn0 : n.toNat ≠ 0 := fun e => by rw [e, Nat.add_zero] at b2; omega
        obtain ⟨m, hm⟩ : ∃ m, n.toNat = m + 1 := ⟨n.toNat - 1, by omega⟩
        have g2 := skV_remark s m (p + 1) (by omega) (by rw [show p + 1 + m = p + n.toNat by omega]; exact b2) (fun j hj => by rw [show p + 1 + j = p + (j + 1) by omega]; exact b3 (j + 1) (by omega))
        refine x.back rfl ?_ ⟨⟨p + n.toNat + 1, by omega, ?_⟩, by show s.size - (p + n.toNat + 1) < s.size - p; omega, ⟨rfl, ?_, trivial⟩, trivial, rfl⟩
        · simp only [AllP, inI64]; omega
        · rw [← same, g1, g2]; congr 1; omega
        · show (p : Int) + n + 1 = ((p + n.toNat + 1 : Nat) : Int); omega
    have h2 : bt s p ≠ 35 := by have h2 : ¬ sb s ((p : Int)).toNat = 35 := of_decide_eq_false h2; omega
    have blank : (bt s p = 32 ∨ bt s p = 9 ∨ bt s p = 10) → ∃ z : { p : Nat // p ≤ s.size ∧ skV s false p = skV s false p0 }, z.1 = p + 1 := fun hb => by
      refine ⟨⟨p + 1, by omega, ?_⟩, rfl⟩
      have e1 : nextR (bt s p) false = false := by unfold nextR; rw [if_neg h2]; split <;> rfl
      have g1 := skV_go (rm := false) h1 (by rw [e1]; unfold stopB; rcases hb with e | e | e <;> rw [e] <;> rfl)
      rw [← same, g1, e1]
    refine x.cond rfl trivial (fun h3 => ?_) (fun h3 => ?_)
    · have h3b : bt s p = 32 := by have h3 : sb s ((p : Int)).toNat = 32 := of_decide_eq_true h3; omega
      refine x.cond rfl trivial (fun _ => ?_) (fun h4 => absurd (h3.symm.trans h4) (by simp))
      obtain ⟨z, hz⟩ := blank (.inl h3b)
      refine x.back rfl (show inI64 _ by unfold inI64; omega) ⟨z, by show s.size - z.1 < s.size - p; omega, ⟨rfl, ?_, trivial⟩, trivial, rfl⟩
      show (p : Int) + 1 = (z.1 : Int); omega
    have h3b : bt s p ≠ 32 := by have h3 : ¬ sb s ((p : Int)).toNat = 32 := of_decide_eq_false h3; omega
    refine x.cond rfl trivial (fun h4 => ?_) (fun h4 => ?_)
    · have h4b : bt s p = 9 := by have h4 : sb s ((p : Int)).toNat = 9 := of_decide_eq_true h4; omega
      refine x.cond rfl trivial (fun _ => ?_) (fun h5 => absurd (h4.symm.trans h5) (by simp))
      obtain ⟨z, hz⟩ := blank (.inr (.inl h4b))
      refine x.back rfl (show inI64 _ by unfold inI64; omega) ⟨z, by show s.size - z.1 < s.size - p; omega, ⟨rfl, ?_, trivial⟩, trivial, rfl⟩
      show (p : Int) + 1 = (z.1 : Int); omega
    have h4b : bt s p ≠ 9 := by have h4 : ¬ sb s ((p : Int)).toNat = 9 := of_decide_eq_false h4; omega
    refine x.cond rfl trivial (fun h5 => ?_) (fun h5 => ?_)
    · have h5b : bt s p = 10 := by have h5 : sb s ((p : Int)).toNat = 10 := of_decide_eq_true h5; omega
      obtain ⟨z, hz⟩ := blank (.inr (.inr h5b))
      refine x.back rfl (show inI64 _ by unfold inI64; omega) ⟨z, by show s.size - z.1 < s.size - p; omega, ⟨rfl, ?_, trivial⟩, trivial, rfl⟩
      show (p : Int) + 1 = (z.1 : Int); omega
    have h5b : bt s p ≠ 10 := by have h5 : ¬ sb s ((p : Int)).toNat = 10 := of_decide_eq_false h5; omega
    refine x.exit rfl trivial ?_
    refine ⟨.inr rfl, ?_, trivial, rfl⟩
    show (p : Int) = (skV s false p0 : Int)
    rw [← same, skV_stop h1]
    unfold nextR stopB
    rw [if_neg h5b, if_neg h2]
    simp [h3b, h4b, h5b]
  · have h1 : p = s.size := by have := of_decide_eq_false h1; omega
    refine x.exit rfl trivial ?_
    refine ⟨.inr rfl, ?_, trivial, rfl⟩
    show (p : Int) = (skV s false p0 : Int)
    rw [← same, skV_end (by omega)]

theorem skipped_spec (s : ByteArray) (p0 : Nat) (hs : s.size ≤ 9223372036854775807) (hp0 : p0 ≤ s.size) : Pure PG 63 [vs s, vi (p0 : Int)] (vi (skV s false p0 : Int)) [] := by
  refine Proc.mk (cfg 36) tysOK [] Tryd.func63 rfl (by kernel_rfl) rfl rfl rfl ?_
  intro C x
  refine x.loop (α := { y : Nat × Bool // y.1 ≤ s.size ∧ skV s y.2 y.1 = skV s false p0 }) (fun y => ⟨[(0, vs s), (1, vi (y.1.1 : Int)), (5, vb y.1.2)], [], 0⟩) (fun y => s.size - y.1.1) ⟨(p0, false), hp0, rfl⟩ rfl trivial ⟨⟨rfl, rfl, rfl, trivial⟩, trivial, rfl⟩ (fun y => ?_)
  obtain ⟨⟨p, rm⟩, hp, same⟩ := y
  have hp : p ≤ s.size := hp
  have same : skV s rm p = skV s false p0 := same
  change Go C _ ⟨[(0, vs s), (1, vi (p : Int)), (5, vb rm)], [], 0⟩ _
  refine x.cond rfl trivial (fun h1 => ?_) (fun h1 => ?_)
  · have h1 : p < s.size := by have := of_decide_eq_true h1; omega
    have ec : sb s ((p : Int)).toNat = (bt s p : Int) := sb_bt s p
    have go : ∀ rm2 : Bool, rm2 = nextR (bt s p) rm → (((!rm2 && !decide (sb s ((p : Int)).toNat = 32)) && !decide (sb s ((p : Int)).toNat = 9)) && !decide (sb s ((p : Int)).toNat = 10)) = stopB (nextR (bt s p) rm) (bt s p) := fun rm2 e => by
      subst e
      unfold stopB
      rw [ec]
      simp only [show ((32 : Int)) = ((32 : Nat) : Int) from rfl, show ((9 : Int)) = ((9 : Nat) : Int) from rfl, show ((10 : Int)) = ((10 : Nat) : Int) from rfl, dec_nat]
    have stop : stopB (nextR (bt s p) rm) (bt s p) = true → (p : Int) = (skV s false p0 : Int) := fun h => by rw [← same, skV_stop h1 h]
    have next : stopB (nextR (bt s p) rm) (bt s p) = false → skV s (nextR (bt s p) rm) (p + 1) = skV s false p0 := fun h => by rw [← same, skV_go h1 h]
    refine x.cond rfl ?_ (fun h2 => ?_) (fun h2 => ?_)
    · simp only [AllP]; omega
    · have h2 : bt s p = 35 := by have h2 : sb s ((p : Int)).toNat = 35 := of_decide_eq_true h2; omega
      have e : true = nextR (bt s p) rm := by rw [h2]; rfl
      refine x.cond rfl trivial (fun h3 => ?_) (fun h3 => ?_)
      · exfalso
        have h3 : sb s ((p : Int)).toNat = 10 := of_decide_eq_true h3
        omega
      refine x.cond rfl trivial (fun h4 => ?_) (fun h4 => ?_)
      · refine x.exit rfl trivial ?_
        exact ⟨.inr rfl, stop ((go _ e).symm.trans h4), trivial, rfl⟩
      · exact x.back rfl (show inI64 _ by unfold inI64; omega) ⟨⟨(p + 1, nextR (bt s p) rm), by show p + 1 ≤ s.size; omega, next ((go _ e).symm.trans h4)⟩, by show s.size - (p + 1) < s.size - p; omega, ⟨rfl, rfl, e, trivial⟩, trivial, rfl⟩
    have h2 : bt s p ≠ 35 := by have h2 : ¬ sb s ((p : Int)).toNat = 35 := of_decide_eq_false h2; omega
    refine x.cond rfl trivial (fun h3 => ?_) (fun h3 => ?_)
    · have h3 : bt s p = 10 := by have h3 : sb s ((p : Int)).toNat = 10 := of_decide_eq_true h3; omega
      have e : false = nextR (bt s p) rm := by rw [h3]; rfl
      refine x.cond rfl trivial (fun h4 => ?_) (fun h4 => ?_)
      · refine x.exit rfl trivial ?_
        exact ⟨.inr rfl, stop ((go _ e).symm.trans h4), trivial, rfl⟩
      · exact x.back rfl (show inI64 _ by unfold inI64; omega) ⟨⟨(p + 1, nextR (bt s p) rm), by show p + 1 ≤ s.size; omega, next ((go _ e).symm.trans h4)⟩, by show s.size - (p + 1) < s.size - p; omega, ⟨rfl, rfl, e, trivial⟩, trivial, rfl⟩
    · have h3 : bt s p ≠ 10 := by have h3 : ¬ sb s ((p : Int)).toNat = 10 := of_decide_eq_false h3; omega
      have e : rm = nextR (bt s p) rm := by unfold nextR; rw [if_neg h3, if_neg h2]
      refine x.cond rfl trivial (fun h4 => ?_) (fun h4 => ?_)
      · refine x.exit rfl trivial ?_
        exact ⟨.inr rfl, stop ((go _ e).symm.trans h4), trivial, rfl⟩
      · exact x.back rfl (show inI64 _ by unfold inI64; omega) ⟨⟨(p + 1, nextR (bt s p) rm), by show p + 1 ≤ s.size; omega, next ((go _ e).symm.trans h4)⟩, by show s.size - (p + 1) < s.size - p; omega, ⟨rfl, rfl, e, trivial⟩, trivial, rfl⟩
  · have h1 : p = s.size := by have := of_decide_eq_false h1; omega
    refine x.exit rfl trivial ?_
    refine ⟨.inr rfl, ?_, trivial, rfl⟩
    show (p : Int) = (skV s false p0 : Int)
    rw [← same, skV_end (by omega)]
end Go.Proofs.YtikkppdihepmdaaDoor

/- Rows of letters and digits. -/
namespace Go.Proofs.YtikkppdihepmdaaDoor
open Go.Sx
set_option linter.unusedVariables false
set_option linter.unusedSimpArgs false
set_option maxRecDepth 100000

def plainB (s : ByteArray) (p : Nat) : Bool := letB (Utf8.decode s p).1 || digB (Utf8.decode s p).1
/-- Where the row of letters and digits ends. -/
def rowN (s : ByteArray) : Nat → Nat → Nat
  | 0, p => p
  | n + 1, p => if p < s.size then (if plainB s p then rowN s n (p + (Utf8.decode s p).2) else p) else p
theorem rowN_end {s : ByteArray} {n p : Nat} (h : s.size ≤ p) : rowN s n p = p := by
  cases n with
  | zero => rfl
  | succ n => rw [rowN, if_neg (by omega)]
theorem rowN_fuel (s : ByteArray) : ∀ (n m p : Nat), s.size ≤ p + n → s.size ≤ p + m → rowN s n p = rowN s m p
  | 0, m, p, h, _ => by rw [rowN_end (by omega), rowN_end (by omega)]
  | n + 1, 0, p, _, h => by rw [rowN_end (by omega), rowN_end (by omega)]
  | n + 1, m + 1, p, h1, h2 => by
    have := (decode_pos s p).1
    rw [rowN, rowN]
    split
    · split
      · exact rowN_fuel s n m _ (by omega) (by omega)
      · rfl
    · rfl
def rowV (s : ByteArray) (p : Nat) : Nat := rowN s s.size p
theorem rowV_end {s : ByteArray} {p : Nat} (h : s.size ≤ p) : rowV s p = p := rowN_end h
theorem rowV_step {s : ByteArray} {p : Nat} (h : p < s.size) : rowV s p = if plainB s p then rowV s (p + (Utf8.decode s p).2) else p := by
  unfold rowV
  obtain ⟨n, hn⟩ : ∃ n, s.size = n + 1 := ⟨s.size - 1, by omega⟩
  have := (decode_pos s p).1
  rw [rowN_fuel s s.size (n + 1) p (by omega) (by omega), rowN, if_pos h, rowN_fuel s n s.size _ (by omega) (by omega)]
theorem rowV_le (s : ByteArray) : ∀ (n p : Nat), s.size ≤ p + n → p ≤ s.size → p ≤ rowV s p ∧ rowV s p ≤ s.size
  | 0, p, h, hp => by rw [rowV_end (by omega)]; omega
  | n + 1, p, h, hp => by
    by_cases hl : p < s.size
    · rw [rowV_step hl]
      split
      · have h1 := (decode_pos s p).1
        have h2 := decode_room hl
        have := rowV_le s n (p + (Utf8.decode s p).2) (by omega) h2
        omega
      · omega
    · rw [rowV_end (by omega)]; omega
theorem decode_extract {s : ByteArray} {p : Nat} (hp : p ≤ s.size) (q : Nat) : Utf8.decode (s.extract p s.size) q = Utf8.decode s (p + q) := by
  have h := dec_shift (s.size - p) q p (bt s (p + q)) (bt s (p + q + 1)) (bt s (p + q + 2)) (bt s (p + q + 3))
  rw [show p + (s.size - p) = s.size by omega] at h
  rw [decode_eq, decode_eq, extract_size, bt_extract, bt_extract, bt_extract, bt_extract, ← Nat.add_assoc, ← Nat.add_assoc, ← Nat.add_assoc, h]
theorem rowV_extract {s : ByteArray} {p : Nat} (hp : p ≤ s.size) : ∀ (n q : Nat), s.size ≤ p + q + n → p + rowV (s.extract p s.size) q = rowV s (p + q)
  | 0, q, h => by rw [rowV_end (by rw [extract_size]; omega), rowV_end (by omega)]
  | n + 1, q, h => by
    by_cases hl : p + q < s.size
    · rw [rowV_step (by rw [extract_size]; omega), rowV_step hl, plainB, plainB, decode_extract hp]
      have := (decode_pos s (p + q)).1
      split
      · rw [rowV_extract hp n _ (by omega), Nat.add_assoc]
      · rfl
    · rw [rowV_end (by rw [extract_size]; omega), rowV_end (by omega)]

theorem row_spec (s : ByteArray) (hs : s.size ≤ 9223372036854775807) : Pure PG 29 [vs s] (vi (rowV s 0 : Int)) [] := by
  refine Proc.mk (cfg 22) tysOK [] Tryd.func29 rfl (by kernel_rfl) rfl rfl rfl ?_
  intro C x
  refine x.loop (α := { p : Nat // p ≤ s.size ∧ rowV s p = rowV s 0 }) (fun y => ⟨[(0, vs s), (6, .ptr 0 0)], [(0, .iter s y.1)], 1⟩) (fun y => s.size - y.1) ⟨0, by omega, rfl⟩ rfl trivial ?_ (fun y => ?_)
  · exact ⟨⟨rfl, ⟨rfl, rfl⟩, trivial⟩, ⟨⟨rfl, rfl⟩, trivial⟩, rfl⟩
  obtain ⟨p, hp, same⟩ := y
  change Go C _ ⟨[(0, vs s), (6, .ptr 0 0)], [(0, .iter s p)], 1⟩ _
  obtain ⟨d1, d2, d3⟩ := decode_pos s p
  refine x.next rfl trivial rfl rfl rfl (fun h => ?_) (fun h => ?_)
  · have h : p < s.size := h
    have hr := decode_room h
    rw [rowV_step h] at same
    refine x.cond rfl trivial (fun _ => ?_) (fun h1 => by cases h1)
    refine x.pure rfl trivial rfl (letter_spec _) ⟨rfl, trivial⟩ ?_
    refine x.pureG rfl trivial rfl (fun _ => digit_spec _) rfl ⟨rfl, trivial⟩ ?_
    refine x.cond rfl trivial (fun h2 => ?_) (fun h2 => ?_)
    · have h2 : (!letB (Utf8.decode s p).1 && !digB (Utf8.decode s p).1) = true := h2
      have h3 : plainB s p = false := by
        unfold plainB
        simp only [Bool.and_eq_true, Bool.not_eq_true'] at h2
        rw [h2.1, h2.2]; rfl
      rw [if_neg (by rw [h3]; simp)] at same
      refine x.exit rfl trivial ?_
      refine ⟨.inr rfl, ?_, trivial, rfl⟩
      rw [← same]
      exact rfl
    · have h2 : (!letB (Utf8.decode s p).1 && !digB (Utf8.decode s p).1) = false := h2
      have h3 : plainB s p = true := by
        unfold plainB
        cases e : letB (Utf8.decode s p).1 with
        | true => rfl
        | false => rw [e] at h2; simpa using h2
      rw [if_pos h3] at same
      refine x.back rfl trivial ⟨⟨p + (Utf8.decode s p).2, hr, same⟩, by show s.size - (p + (Utf8.decode s p).2) < s.size - p; omega, ?_⟩
      exact ⟨⟨rfl, ⟨rfl, rfl⟩, trivial⟩, ⟨⟨rfl, rfl⟩, trivial⟩, rfl⟩
  · have h : ¬ p < s.size := h
    refine x.cond rfl trivial (fun h1 => by cases h1) (fun _ => ?_)
    refine x.exit rfl trivial ?_
    refine ⟨.inr rfl, ?_, trivial, rfl⟩
    rw [rowV_end (by omega)] at same
    show (s.size : Int) = (rowV s 0 : Int)
    rw [← same]; omega

theorem form_plain {s : ByteArray} {p : Nat} (h : p < s.size) : (decide (0 < (formV s (p : Int)).2) && (letB (formV s (p : Int)).1 || digB (formV s (p : Int)).1)) = plainB s p := by
  have hd := decode_pos s p
  unfold plainB
  rw [formV_at h]
  by_cases h1 : (Utf8.decode s p).2 = 1 ∧ 128 ≤ bt s p
  · rw [if_pos h1]
    have hr : (Utf8.decode s p).1 = 65533 := by
      rw [decode_eq] at h1 ⊢
      exact dec_bad _ _ _ _ _ _ h1.1 h1.2
    rw [hr]; decide
  · rw [if_neg h1]
    show (decide (0 < ((Utf8.decode s p).2 : Int)) && _) = _
    rw [decide_eq_true (by omega), Bool.true_and]
theorem refplain_spec (s : ByteArray) (p : Nat) (hs : s.size ≤ 9223372036854775807) (hp : p < s.size) : Pure PG 66 [vs s, vi (p : Int)] (vb (plainB s p)) [] := by
  refine Proc.mk (cfg 23) tysOK [] Tryd.func66 rfl (by kernel_rfl) rfl rfl rfl ?_
  intro C x
  refine x.pure rfl trivial rfl (form_spec s (p : Int) hs) ⟨rfl, rfl, trivial⟩ ?_
  refine x.pureG rfl trivial rfl (fun _ => ref_letter_spec _) rfl ⟨rfl, trivial⟩ ?_
  refine x.pureG rfl trivial rfl (fun _ _ => ref_digit_spec _) rfl ⟨rfl, trivial⟩ ?_
  refine x.exit rfl trivial ?_
  refine ⟨.inr rfl, ?_, trivial, rfl⟩
  exact form_plain hp
end Go.Proofs.YtikkppdihepmdaaDoor

/- The first token: the program's, and the answer's. -/
namespace Go.Proofs.YtikkppdihepmdaaDoor
open Go.Sx
set_option linter.unusedVariables false
set_option linter.unusedSimpArgs false
set_option maxRecDepth 100000

structure Tok where
  k : Int
  f : Int
  t : Int
deriving DecidableEq
abbrev dTok (t : Tok) : List D := [.int .u8 t.k, .int .i64 t.f, .int .i64 t.t]
abbrev vTok (t : Tok) : List V := [.d (.int .u8 t.k), vi t.f, vi t.t]
abbrev tokV (t : Tok) : V := .agg (vTok t)
def tok0 : Tok := ⟨0, 0, 0⟩
def nameB (b : ByteArray) : Bool := nameW b b.size 0 0
def kindOf (b : ByteArray) : Int := if wordB b then 2 else if nameB b then 1 else if (numV b).2 then 3 else 0
def pieceEnd (s : ByteArray) (p : Nat) : Nat := if bt s p = 45 ∧ digAt s (p + 1) = true then rowV s (p + 1) else rowV s p
def oneN (s : ByteArray) (a : Nat) : Tok × Int × Int :=
  if skV s false a = s.size then (tok0, (s.size : Int), 4)
  else if signB (bt s (skV s false a)) then (⟨4, skV s false a, skV s false a + 1⟩, 0, 0)
  else if kindOf (s.extract (skV s false a) (pieceEnd s (skV s false a))) = 0 then (tok0, (skV s false a : Int), 6)
  else (⟨kindOf (s.extract (skV s false a) (pieceEnd s (skV s false a))), skV s false a, pieceEnd s (skV s false a)⟩, 0, 0)
def oneV (s : ByteArray) (a : Int) : Tok × Int × Int := if a < 0 ∨ (s.size : Int) < a then (tok0, 0, 1) else oneN s a.toNat
theorem oneN_none {s : ByteArray} {a p : Nat} (hp : skV s false a = p) (h : p = s.size) : oneN s a = (tok0, (s.size : Int), 4) := by
  unfold oneN; rw [hp, if_pos h]
theorem oneN_sign {s : ByteArray} {a p : Nat} (hp : skV s false a = p) (h : p ≠ s.size) (h2 : signB (bt s p) = true) : oneN s a = (⟨4, p, p + 1⟩, 0, 0) := by
  unfold oneN; rw [hp, if_neg h, if_pos h2]
theorem oneN_bad {s : ByteArray} {a p : Nat} (hp : skV s false a = p) (h : p ≠ s.size) (h2 : signB (bt s p) = false) (h3 : kindOf (s.extract p (pieceEnd s p)) = 0) : oneN s a = (tok0, (p : Int), 6) := by
  unfold oneN; rw [hp, if_neg h, if_neg (by rw [h2]; simp), if_pos h3]
theorem oneN_ok {s : ByteArray} {a p : Nat} (hp : skV s false a = p) (h : p ≠ s.size) (h2 : signB (bt s p) = false) (h3 : kindOf (s.extract p (pieceEnd s p)) ≠ 0) : oneN s a = (⟨kindOf (s.extract p (pieceEnd s p)), p, pieceEnd s p⟩, 0, 0) := by
  unfold oneN; rw [hp, if_neg h, if_neg (by rw [h2]; simp), if_neg h3]
theorem pieceEnd_le {s : ByteArray} {p : Nat} (hp : p < s.size) : p ≤ pieceEnd s p ∧ pieceEnd s p ≤ s.size := by
  unfold pieceEnd
  split
  · have := rowV_le s s.size (p + 1) (by omega) (by omega); omega
  · exact rowV_le s s.size p (by omega) (by omega)
theorem kind_word {b : ByteArray} (h : wordB b = true) : kindOf b = 2 := by unfold kindOf; rw [if_pos h]
theorem kind_name {b : ByteArray} (h : wordB b = false) (h2 : nameB b = true) : kindOf b = 1 := by unfold kindOf; rw [if_neg (by rw [h]; simp), if_pos h2]
theorem kind_num {b : ByteArray} (h : wordB b = false) (h2 : nameB b = false) (h3 : (numV b).2 = true) : kindOf b = 3 := by unfold kindOf; rw [if_neg (by rw [h]; simp), if_neg (by rw [h2]; simp), if_pos h3]
theorem kind_none {b : ByteArray} (h : wordB b = false) (h2 : nameB b = false) (h3 : (numV b).2 = false) : kindOf b = 0 := by unfold kindOf; rw [if_neg (by rw [h]; simp), if_neg (by rw [h2]; simp), if_neg (by rw [h3]; simp)]
theorem sign_idx (n : Nat) (hn : n < 256) : decide (0 ≤ Lib.indexByte [40, 41, 123, 125, 91, 93, 44, 58, 61] n.toUInt8) = signB n := by
  have : ∀ n, n < 256 → decide (0 ≤ Lib.indexByte [40, 41, 123, 125, 91, 93, 44, 58, 61] n.toUInt8) = signB n := by decide +kernel
  exact this n hn
theorem ex_size (s : ByteArray) (p q : Nat) : (s.extract p q).size ≤ s.size := by
  rw [ByteArray.size_extract]; omega

theorem one_spec (s : ByteArray) (a : Int) (hs : s.size ≤ 4611686018427387904) : Pure PG 12 [vs s, vi a] (.tup [tokV (oneV s a).1, vi (oneV s a).2.1, vi (oneV s a).2.2]) [] := by
  refine Proc.mk (cfg 104) tysOK [] Tryd.func12 rfl (by kernel_rfl) rfl rfl rfl ?_
  intro C x
  refine x.cond rfl trivial (fun h => ?_) (fun h => ?_)
  · have h : (decide (a < 0) || decide ((s.size : Int) < a)) = true := h
    rw [Bool.or_eq_true, decide_eq_true_eq, decide_eq_true_eq] at h
    rw [oneV, if_pos h]
    refine x.exit rfl trivial ?_
    exact ⟨.inr rfl, ⟨rfl, rfl, rfl, trivial⟩, trivial, rfl⟩
  have h : (decide (a < 0) || decide ((s.size : Int) < a)) = false := h
  rw [Bool.or_eq_false_iff, decide_eq_false_iff_not, decide_eq_false_iff_not] at h
  rw [oneV, if_neg (by omega)]
  obtain ⟨a, rfl⟩ : ∃ n : Nat, a = n := ⟨a.toNat, by omega⟩
  rw [Int.toNat_natCast]
  refine x.pure rfl trivial rfl (skip_spec s a (by omega) (by omega)) ⟨rfl, rfl, trivial⟩ ?_
  obtain ⟨hp1, hp2, hp3⟩ := skV_le s s.size false a (by omega) (by omega)
  obtain ⟨p, hp⟩ : ∃ p, skV s false a = p := ⟨_, rfl⟩
  rw [hp] at hp1 hp2 hp3 ⊢
  refine x.cond rfl trivial (fun h2 => ?_) (fun h2 => ?_)
  · have h2 : p = s.size := by have h2 : (p : Int) = s.size := of_decide_eq_true h2; omega
    rw [oneN_none hp h2]
    refine x.exit rfl trivial ?_
    exact ⟨.inr rfl, ⟨rfl, by show (p : Int) = s.size; omega, rfl, trivial⟩, trivial, rfl⟩
  have h2 : p ≠ s.size := by have h2 : ¬ (p : Int) = s.size := of_decide_eq_false h2; omega
  have hpl : p < s.size := by omega
  have ec : sb s ((p : Int)).toNat = (bt s p : Int) := sb_bt s p
  have hbl := bt_lt s p
  refine x.pure rfl ?_ rfl (indexByte_spec ⟨#[40, 41, 123, 125, 91, 93, 44, 58, 61]⟩ (bt s p : Int)) ⟨rfl, ?_, trivial⟩ ?_
  · simp only [AllP]; omega
  · exact ec
  rw [Int.toNat_natCast]
  refine x.cond rfl trivial (fun h3 => ?_) (fun h3 => ?_)
  · have h3 : signB (bt s p) = true := (sign_idx _ hbl).symm.trans h3
    rw [oneN_sign hp h2 h3]
    refine x.exit rfl ?_ ?_
    · simp only [AllP, inI64]; omega
    exact ⟨.inr rfl, ⟨rfl, rfl, rfl, trivial⟩, trivial, rfl⟩
  have h3 : signB (bt s p) = false := (sign_idx _ hbl).symm.trans h3
  refine x.pure rfl ?_ rfl (row_spec (s.extract p s.size) (by have := ex_size s p s.size; omega)) ⟨rfl, trivial⟩ ?_
  · simp only [AllP]; omega
  have er := rowV_extract hp2 s.size 0 (by omega)
  rw [Nat.add_zero] at er
  obtain ⟨e1, e2⟩ := pieceEnd_le hpl
  have hrl := rowV_le s s.size p (by omega) hp2
  refine x.ite (α := Unit) (fun _ => ⟨[(0, vs s), (1, vi (p : Int)), (4, .ptr 0 0), (7, vi ((pieceEnd s p - p : Nat) : Int))], [(0, .box (vTok tok0))], 1⟩) rfl ?_ (fun h4 => ?_) (fun h4 => ?_) (fun _ => ?_)
  · simp only [AllP, inI64, Bool.and_eq_true, decide_eq_true_eq]
    exact ⟨by omega, fun _ => by omega, fun _ => by omega, fun _ => by omega, fun _ => by omega, fun _ => by omega⟩
  · have h4 : (((decide (sb s ((p : Int)).toNat = 45) && decide ((p : Int) + 1 < (s.size : Int))) && decide (48 ≤ sb s ((p : Int) + 1).toNat)) && decide (sb s ((p : Int) + 1).toNat ≤ 57)) = true := h4
    have ep1 : ((p : Int) + 1).toNat = p + 1 := by omega
    rw [ec, ep1, sb_bt] at h4
    simp only [Bool.and_eq_true, decide_eq_true_eq] at h4
    have e45 : bt s p = 45 := by omega
    have ed : digAt s (p + 1) = true := by
      unfold digAt
      simp only [Bool.and_eq_true, decide_eq_true_eq]
      omega
    have epe : pieceEnd s p = rowV s (p + 1) := by unfold pieceEnd; rw [if_pos ⟨e45, ed⟩]
    refine x.pure rfl ?_ rfl (row_spec (s.extract (p + 1) s.size) (by have := ex_size s (p + 1) s.size; omega)) ⟨?_, trivial⟩ ?_
    · simp only [AllP, inI64]; omega
    · show s.extract ((p : Int) + 1).toNat s.size = s.extract (p + 1) s.size
      rw [ep1]
    have er1 := rowV_extract (s := s) (p := p + 1) (by omega) s.size 0 (by omega)
    rw [Nat.add_zero] at er1
    refine x.back rfl ?_ ⟨(), ⟨rfl, rfl, ⟨rfl, rfl⟩, ?_, trivial⟩, ⟨⟨rfl, rfl, rfl, trivial⟩, trivial⟩, rfl⟩
    · simp only [AllP, inI64]; omega
    · show 1 + (rowV (s.extract (p + 1) s.size) 0 : Int) = ((pieceEnd s p - p : Nat) : Int)
      omega
  · have h4 : (((decide (sb s ((p : Int)).toNat = 45) && decide ((p : Int) + 1 < (s.size : Int))) && decide (48 ≤ sb s ((p : Int) + 1).toNat)) && decide (sb s ((p : Int) + 1).toNat ≤ 57)) = false := h4
    have ep1 : ((p : Int) + 1).toNat = p + 1 := by omega
    have epe : pieceEnd s p = rowV s p := by
      unfold pieceEnd
      rw [if_neg]
      rintro ⟨e45, ed⟩
      unfold digAt at ed
      simp only [Bool.and_eq_true, decide_eq_true_eq] at ed
      rw [ec, ep1, sb_bt] at h4
      rw [decide_eq_true (by omega), decide_eq_true (by omega), decide_eq_true (by omega), decide_eq_true (by omega)] at h4
      cases h4
    refine x.back rfl trivial ⟨(), ⟨rfl, rfl, ⟨rfl, rfl⟩, ?_, trivial⟩, ⟨⟨rfl, rfl, rfl, trivial⟩, trivial⟩, rfl⟩
    show (rowV (s.extract p s.size) 0 : Int) = ((pieceEnd s p - p : Nat) : Int)
    omega
  obtain ⟨q, hq⟩ : ∃ q, pieceEnd s p = q := ⟨_, rfl⟩
  rw [hq] at e1 e2 ⊢
  have eqq : (p : Int) + ((q - p : Nat) : Int) = (q : Int) := by omega
  obtain ⟨b, hb⟩ : ∃ b, s.extract p q = b := ⟨_, rfl⟩
  have hbs : b.size ≤ s.size := by rw [← hb]; exact ex_size s p q
  refine x.pure rfl ?_ rfl (number_spec b) ⟨?_, trivial⟩ ?_
  · simp only [AllP, inI64, eqq]; omega
  · show s.extract ((p : Int)).toNat ((p : Int) + ((q - p : Nat) : Int)).toNat = b
    rw [eqq, Int.toNat_natCast, Int.toNat_natCast, hb]
  have ebv : s.extract ((p : Int)).toNat ((p : Int) + ((q - p : Nat) : Int)).toNat = b := by rw [eqq, Int.toNat_natCast, Int.toNat_natCast, hb]
  refine x.le (s' := ⟨[(1, vi (p : Int)), (4, .ptr 0 0), (8, .ptr 1 0), (9, vs b), (87, .tup [vi (numV b).1, vb (numV b).2])], [(0, .box (vTok tok0)), (1, .box (vTok ⟨0, p, q⟩))], 2⟩) ?_ ?_
  · exact ⟨⟨rfl, ⟨rfl, rfl⟩, ⟨rfl, rfl⟩, ebv, ⟨rfl, rfl, trivial⟩, trivial⟩, ⟨⟨rfl, rfl, rfl, trivial⟩, ⟨rfl, rfl, eqq, trivial⟩, trivial⟩, rfl⟩
  refine x.pure rfl trivial rfl (word_spec b) ⟨rfl, trivial⟩ ?_
  have fin : ∀ k : Int, kindOf b = k → k ≠ 0 → oneN s a = (⟨k, p, q⟩, 0, 0) := fun k hk h0 => by
    rw [oneN_ok hp h2 h3 (by rw [hq, hb, hk]; exact h0), hq, hb, hk]
  refine x.cond rfl trivial (fun h5 => ?_) (fun h5 => ?_)
  · rw [fin 2 (kind_word h5) (by decide)]
    refine x.exit rfl trivial ?_
    exact ⟨.inr rfl, ⟨rfl, rfl, rfl, trivial⟩, trivial, rfl⟩
  refine x.pure rfl trivial rfl (name_spec b (by omega)) ⟨rfl, trivial⟩ ?_
  refine x.cond rfl trivial (fun h6 => ?_) (fun h6 => ?_)
  · rw [fin 1 (kind_name h5 h6) (by decide)]
    refine x.exit rfl trivial ?_
    exact ⟨.inr rfl, ⟨rfl, rfl, rfl, trivial⟩, trivial, rfl⟩
  refine x.cond rfl trivial (fun h7 => ?_) (fun h7 => ?_)
  · rw [fin 3 (kind_num h5 h6 h7) (by decide)]
    refine x.exit rfl trivial ?_
    exact ⟨.inr rfl, ⟨rfl, rfl, rfl, trivial⟩, trivial, rfl⟩
  · rw [oneN_bad hp h2 h3 (by rw [hq, hb]; exact kind_none h5 h6 h7)]
    refine x.exit rfl trivial ?_
    exact ⟨.inr rfl, ⟨rfl, rfl, rfl, trivial⟩, trivial, rfl⟩

theorem refone_spec (s : ByteArray) (a : Int) (hs : s.size ≤ 4611686018427387904) : Pure PG 42 [vs s, vi a] (.tup [tokV (oneV s a).1, vi (oneV s a).2.1, vi (oneV s a).2.2]) [] := by
  refine Proc.mk (cfg 91) tysOK [] Tryd.func42 rfl (by kernel_rfl) rfl rfl rfl ?_
  intro C x
  refine x.cond rfl trivial (fun h => ?_) (fun h => ?_)
  · have h : (decide (a < 0) || decide ((s.size : Int) < a)) = true := h
    rw [Bool.or_eq_true, decide_eq_true_eq, decide_eq_true_eq] at h
    rw [oneV, if_pos h]
    refine x.exit rfl trivial ?_
    exact ⟨.inr rfl, ⟨rfl, rfl, rfl, trivial⟩, trivial, rfl⟩
  have h : (decide (a < 0) || decide ((s.size : Int) < a)) = false := h
  rw [Bool.or_eq_false_iff, decide_eq_false_iff_not, decide_eq_false_iff_not] at h
  rw [oneV, if_neg (by omega)]
  obtain ⟨a, rfl⟩ : ∃ n : Nat, a = n := ⟨a.toNat, by omega⟩
  rw [Int.toNat_natCast]
  refine x.pure rfl trivial rfl (skipped_spec s a (by omega) (by omega)) ⟨rfl, rfl, trivial⟩ ?_
  obtain ⟨hp1, hp2, hp3⟩ := skV_le s s.size false a (by omega) (by omega)
  obtain ⟨p, hp⟩ : ∃ p, skV s false a = p := ⟨_, rfl⟩
  rw [hp] at hp1 hp2 hp3 ⊢
  refine x.cond rfl trivial (fun h2 => ?_) (fun h2 => ?_)
  · have h2 : p = s.size := by have h2 : (s.size : Int) ≤ p := of_decide_eq_true h2; omega
    rw [oneN_none hp h2]
    refine x.exit rfl trivial ?_
    exact ⟨.inr rfl, ⟨rfl, rfl, rfl, trivial⟩, trivial, rfl⟩
  have hpl : p < s.size := by have h2 : ¬ (s.size : Int) ≤ p := of_decide_eq_false h2; omega
  have h2 : p ≠ s.size := by omega
  have ec : sb s ((p : Int)).toNat = (bt s p : Int) := sb_bt s p
  have hbl := bt_lt s p
  refine x.pure rfl ?_ rfl (sign_spec (bt s p)) ⟨ec, trivial⟩ ?_
  · simp only [AllP]; omega
  refine x.cond rfl trivial (fun h3 => ?_) (fun h3 => ?_)
  · rw [oneN_sign hp h2 h3]
    refine x.exit rfl ?_ ?_
    · simp only [AllP, inI64]; omega
    exact ⟨.inr rfl, ⟨rfl, rfl, rfl, trivial⟩, trivial, rfl⟩
  refine x.pureG rfl ?_ rfl (fun _ => digit3_spec s (p + 1)) rfl ⟨rfl, rfl, trivial⟩ ?_
  · simp only [AllP, inI64]; exact ⟨by omega, fun _ => by omega⟩
  obtain ⟨e1, e2⟩ := pieceEnd_le hpl
  have hcond : (decide (sb s ((p : Int)).toNat = 45) && digAt s (p + 1)) = true ↔ bt s p = 45 ∧ digAt s (p + 1) = true := by
    rw [ec, Bool.and_eq_true, decide_eq_true_eq]
    constructor
    · rintro ⟨u, v⟩; exact ⟨by omega, v⟩
    · rintro ⟨u, v⟩; exact ⟨by omega, v⟩
  refine x.ite (α := { q0 : Nat // q0 ≤ s.size ∧ rowV s q0 = pieceEnd s p ∧ p ≤ q0 }) (fun y => ⟨[(0, vs s), (1, vi (p : Int)), (4, .ptr 0 0), (7, vi (y.1 : Int))], [(0, .box (vTok tok0))], 1⟩) rfl trivial (fun h4 => ?_) (fun h4 => ?_) (fun y => ?_)
  · have h4 := hcond.1 h4
    have hl : p + 1 < s.size := by
      have := h4.2; unfold digAt at this
      simp only [Bool.and_eq_true, decide_eq_true_eq] at this
      exact this.1
    refine x.back rfl (show inI64 _ by unfold inI64; omega) ⟨⟨p + 1, by omega, by unfold pieceEnd; rw [if_pos h4], by omega⟩, ⟨rfl, rfl, ⟨rfl, rfl⟩, rfl, trivial⟩, ⟨⟨rfl, rfl, rfl, trivial⟩, trivial⟩, rfl⟩
  · have h4 : ¬ (bt s p = 45 ∧ digAt s (p + 1) = true) := fun e => by rw [hcond.2 e] at h4; cases h4
    exact x.back rfl trivial ⟨⟨p, by omega, by unfold pieceEnd; rw [if_neg h4], Nat.le_refl _⟩, ⟨rfl, rfl, ⟨rfl, rfl⟩, rfl, trivial⟩, ⟨⟨rfl, rfl, rfl, trivial⟩, trivial⟩, rfl⟩
  obtain ⟨q0, hq0, hqe, hpq⟩ := y
  change Go C _ ⟨[(0, vs s), (1, vi (p : Int)), (4, .ptr 0 0), (7, vi (q0 : Int))], [(0, .box (vTok tok0))], 1⟩ _
  refine x.loop (α := { q : Nat // q ≤ s.size ∧ rowV s q = pieceEnd s p ∧ p ≤ q }) (fun y => ⟨[(0, vs s), (1, vi (p : Int)), (4, .ptr 0 0), (7, vi (y.1 : Int))], [(0, .box (vTok tok0))], 1⟩) (fun y => s.size - y.1) ⟨q0, hq0, hqe, hpq⟩ rfl trivial ⟨⟨rfl, rfl, ⟨rfl, rfl⟩, rfl, trivial⟩, ⟨⟨rfl, rfl, rfl, trivial⟩, trivial⟩, rfl⟩ (fun y => ?_)
  obtain ⟨q, hq1, hqe, hpq⟩ := y
  change Go C _ ⟨[(0, vs s), (1, vi (p : Int)), (4, .ptr 0 0), (7, vi (q : Int))], [(0, .box (vTok tok0))], 1⟩ _
  refine x.pureG rfl trivial rfl (fun h => refplain_spec s q (by omega) (by
    have h : decide ((q : Int) < s.size) = true := h
    have := of_decide_eq_true h; omega)) rfl ⟨rfl, rfl, trivial⟩ ?_
  refine x.cond rfl trivial (fun h5 => ?_) (fun h5 => ?_)
  · have h5 : (decide ((q : Int) < s.size) && plainB s q) = true := h5
    rw [Bool.and_eq_true, decide_eq_true_eq] at h5
    have hql : q < s.size := by omega
    rw [rowV_step hql, if_pos h5.2] at hqe
    have hr := decode_room hql
    have hd := (decode_pos s q).1
    refine x.pure rfl trivial rfl (next_spec s (q : Int) (by omega) ⟨by omega, by omega⟩) ⟨rfl, rfl, trivial⟩ ?_
    rw [nextV_at hql]
    exact x.back rfl trivial ⟨⟨q + (Utf8.decode s q).2, hr, hqe, by omega⟩, by show s.size - (q + (Utf8.decode s q).2) < s.size - q; omega, ⟨rfl, rfl, ⟨rfl, rfl⟩, rfl, trivial⟩, ⟨⟨rfl, rfl, rfl, trivial⟩, trivial⟩, rfl⟩
  have h5 : (decide ((q : Int) < s.size) && plainB s q) = false := h5
  have hqq : pieceEnd s p = q := by
    rw [← hqe]
    by_cases hl : q < s.size
    · rw [decide_eq_true (by omega), Bool.true_and] at h5
      rw [rowV_step hl, if_neg (by rw [h5]; simp)]
    · exact rowV_end (by omega)
  have hq := hqq
  obtain ⟨b, hb⟩ : ∃ b, s.extract p q = b := ⟨_, rfl⟩
  have hbs : b.size ≤ s.size := by rw [← hb]; exact ex_size s p q
  have ebv : s.extract ((p : Int)).toNat ((q : Int)).toNat = b := hb
  refine x.pure rfl ?_ rfl (ref_number_spec b (by omega)) ⟨ebv, trivial⟩ ?_
  · simp only [AllP]; omega
  rw [← num_eq b]
  refine x.pure rfl ?_ rfl (refword_spec b) ⟨ebv, trivial⟩ ?_
  · simp only [AllP]; omega
  have fin : ∀ k : Int, kindOf b = k → k ≠ 0 → oneN s a = (⟨k, p, q⟩, 0, 0) := fun k hk h0 => by
    rw [oneN_ok hp h2 h3 (by rw [hq, hb, hk]; exact h0), hq, hb, hk]
  refine x.cond rfl trivial (fun h5 => ?_) (fun h5 => ?_)
  · rw [fin 2 (kind_word h5) (by decide)]
    refine x.exit rfl trivial ?_
    exact ⟨.inr rfl, ⟨rfl, rfl, rfl, trivial⟩, trivial, rfl⟩
  refine x.pure rfl ?_ rfl (ref_name_spec b (by omega)) ⟨ebv, trivial⟩ ?_
  · simp only [AllP]; omega
  rw [← name_eq b]
  refine x.cond rfl trivial (fun h6 => ?_) (fun h6 => ?_)
  · rw [fin 1 (kind_name h5 h6) (by decide)]
    refine x.exit rfl trivial ?_
    exact ⟨.inr rfl, ⟨rfl, rfl, rfl, trivial⟩, trivial, rfl⟩
  refine x.cond rfl trivial (fun h7 => ?_) (fun h7 => ?_)
  · rw [fin 3 (kind_num h5 h6 h7) (by decide)]
    refine x.exit rfl trivial ?_
    exact ⟨.inr rfl, ⟨rfl, rfl, rfl, trivial⟩, trivial, rfl⟩
  · rw [oneN_bad hp h2 h3 (by rw [hq, hb]; exact kind_none h5 h6 h7)]
    refine x.exit rfl trivial ?_
    exact ⟨.inr rfl, ⟨rfl, rfl, rfl, trivial⟩, trivial, rfl⟩
end Go.Proofs.YtikkppdihepmdaaDoor

/- All tokens: the program's, and the answer's; the example. -/
namespace Go.Proofs.YtikkppdihepmdaaDoor
open Go.Sx
set_option linter.unusedVariables false
set_option linter.unusedSimpArgs false
set_option maxRecDepth 100000

def dToks (l : List Tok) : D := .sl 3 l.length fun i => dTok (l.getD i tok0)
abbrev tv (l : List Tok) : V := .d (dToks l)
abbrev tokC (l : List Tok) : Ch := .vec 47 3 l.length fun i => dTok (l.getD i tok0)
theorem app_tok (l : List Tok) (t : Tok) (j : Nat) (hj : j < l.length + 1) : app l.length (fun i => dTok (l.getD i tok0)) (fun _ => dTok t) j = dTok ((l ++ [t]).getD j tok0) := by
  unfold app
  by_cases h : j < l.length
  · show zipIte (j < l.length) (dTok (l.getD j tok0)) (dTok t) = _
    rw [List.getD_eq_getElem?_getD, List.getD_eq_getElem?_getD, List.getElem?_append_left h]
    simp only [dTok, zipIte, iteD_pos h]
    rw [if_pos h]
  · show zipIte (j < l.length) (dTok (l.getD j tok0)) (dTok t) = _
    have e : j = l.length := by omega
    rw [List.getD_eq_getElem?_getD (l := l ++ [t]), List.getElem?_append_right (by omega), e, Nat.sub_self]
    simp only [dTok, zipIte, iteD_neg (Nat.lt_irrefl _)]
    rw [if_neg (Nat.lt_irrefl _)]
    rfl
theorem kind_empty {b : ByteArray} (h : b.size = 0) : kindOf b = 0 := by
  have e : b.data.toList = [] := List.eq_nil_of_length_eq_zero (by rw [← size_list]; exact h)
  rw [ba_eq b, e]
  decide +kernel
theorem kind_piece {s : ByteArray} {p q : Nat} (h : kindOf (s.extract p q) ≠ 0) : p < q := by
  rcases Nat.lt_or_ge p q with h1 | h1
  · exact h1
  · exact absurd (kind_empty (by rw [ByteArray.size_extract]; omega)) h
theorem one_facts {s : ByteArray} {a : Nat} (ha : a ≤ s.size) : ((oneN s a).2.2 = 0 ∧ (a : Int) ≤ (oneN s a).1.f ∧ (oneN s a).1.f < (oneN s a).1.t ∧ (oneN s a).1.t ≤ s.size) ∨ (oneN s a).2.2 = 4 ∨ (oneN s a).2.2 = 6 := by
  obtain ⟨h1, h2, h3⟩ := skV_le s s.size false a (by omega) ha
  obtain ⟨p, hp⟩ : ∃ p, skV s false a = p := ⟨_, rfl⟩
  rw [hp] at h1 h2
  by_cases e : p = s.size
  · rw [oneN_none hp e]; exact .inr (.inl rfl)
  · cases hs : signB (bt s p) with
    | true =>
      rw [oneN_sign hp e hs]
      exact .inl ⟨rfl, by show (a : Int) ≤ p; omega, by show (p : Int) < p + 1; omega, by show (p : Int) + 1 ≤ s.size; omega⟩
    | false =>
      by_cases hk : kindOf (s.extract p (pieceEnd s p)) = 0
      · rw [oneN_bad hp e hs hk]; exact .inr (.inr rfl)
      · rw [oneN_ok hp e hs hk]
        have h4 := kind_piece hk
        have h5 := pieceEnd_le (s := s) (p := p) (by omega)
        exact .inl ⟨rfl, by show (a : Int) ≤ p; omega, by show (p : Int) < pieceEnd s p; omega, by show (pieceEnd s p : Int) ≤ s.size; omega⟩
def toksF (s : ByteArray) : Nat → Nat → List Tok → List Tok × Int × Int
  | 0, _, _ => ([], 0, 0)
  | n + 1, a, out => if (oneN s a).2.2 = 4 then (out, 0, 0) else if (oneN s a).2.2 = 0 then toksF s n (oneN s a).1.t.toNat (out ++ [(oneN s a).1]) else ([], (oneN s a).2.1, (oneN s a).2.2)
def allV (s : ByteArray) : List Tok × Int × Int :=
  if 65536 < s.size then ([], 0, 2)
  else if 0 ≤ badV s s.size 0 then ([], badV s s.size 0, 5)
  else toksF s (s.size + 1) 0 []
structure TI3 (s : ByteArray) where
  n : Nat
  a : Nat
  out : List Tok
  ha : a ≤ s.size
  fuel : s.size + 1 ≤ a + n
  len : out.length ≤ a
  same : toksF s n a out = toksF s (s.size + 1) 0 []
theorem clipT_spec (l : List Tok) (hl : l.length ≤ big) : Pure PG 26 [tv l] (tv l) [] := by
  refine Proc.mk (cfg 9) tysOK [] Tryd.func26 rfl (by kernel_rfl) rfl rfl rfl ?_
  intro C x
  unfold big at hl
  refine x.exit rfl ?_ ?_
  · simp only [AllP]; omega
  · exact ⟨.inr rfl, veq_d rfl, trivial, rfl⟩

theorem all_spec (s : ByteArray) (hs : s.size ≤ 4611686018427387904) : Pure PG 11 [vs s] (.tup [tv (allV s).1, vi (allV s).2.1, vi (allV s).2.2]) [] := by
  refine Proc.mk (cfg 40) tysOK [] Tryd.func11 rfl (by kernel_rfl) rfl rfl rfl ?_
  intro C x
  refine x.cond rfl trivial (fun h => ?_) (fun h => ?_)
  · have h : (65536 : Int) < s.size := of_decide_eq_true h
    rw [allV, if_pos (by omega)]
    refine x.exit rfl trivial ?_
    exact ⟨.inr rfl, ⟨rfl, rfl, rfl, trivial⟩, trivial, rfl⟩
  have h : ¬ (65536 : Int) < s.size := of_decide_eq_false h
  rw [allV, if_neg (by omega)]
  refine x.pure rfl trivial rfl (badW_spec s (by omega)) ⟨rfl, trivial⟩ ?_
  refine x.cond rfl trivial (fun h2 => ?_) (fun h2 => ?_)
  · have h2 : 0 ≤ badV s s.size 0 := of_decide_eq_true h2
    rw [if_pos h2]
    refine x.exit rfl trivial ?_
    exact ⟨.inr rfl, ⟨rfl, rfl, rfl, trivial⟩, trivial, rfl⟩
  have h2 : ¬ 0 ≤ badV s s.size 0 := of_decide_eq_false h2
  rw [if_neg h2]
  refine x.toLoop rfl trivial ?_
  refine Go.own 6 47 3 (fun j => dTok (([] : List Tok).getD j tok0)) rfl ?_
  refine x.loop (α := TI3 s) (fun y => ⟨[(0, vs s), (6, .own 0), (7, vi (y.a : Int))], [(0, tokC y.out)], 1⟩) (fun y => y.n) ⟨s.size + 1, 0, [], by omega, by omega, by simp, rfl⟩ rfl trivial ⟨⟨rfl, rfl, rfl, trivial⟩, ⟨⟨rfl, rfl, rfl, fun j hj => absurd hj (Nat.not_lt_zero _)⟩, trivial⟩, rfl⟩ (fun y => ?_)
  obtain ⟨n, a, out, hal, fuel, len, same⟩ := y
  change Go C _ ⟨[(0, vs s), (6, .own 0), (7, vi (a : Int))], [(0, tokC out)], 1⟩ _
  obtain ⟨n, rfl⟩ : ∃ m, n = m + 1 := ⟨n - 1, by omega⟩
  refine x.pure rfl trivial rfl (one_spec s (a : Int) hs) ⟨rfl, rfl, trivial⟩ ?_
  rw [show oneV s (a : Int) = oneN s a by rw [oneV, if_neg (by omega), Int.toNat_natCast]]
  have hf := one_facts hal
  rw [toksF] at same
  obtain ⟨⟨t, place, e⟩, hr⟩ : ∃ r, oneN s a = r := ⟨_, rfl⟩
  rw [hr] at hf same ⊢
  dsimp only at hf same
  refine x.cond rfl trivial (fun h3 => ?_) (fun h3 => ?_)
  · have h3 : e = 4 := of_decide_eq_true h3
    rw [if_pos h3] at same
    rw [← same]
    refine Sx.Go.freeze 0 ?_
    refine x.pure rfl trivial rfl (clipT_spec out (by unfold big; omega)) ⟨veq_d rfl, trivial⟩ ?_
    refine x.exit rfl trivial ?_
    exact ⟨.inr rfl, ⟨veq0_d rfl, rfl, rfl, trivial⟩, trivial, rfl⟩
  have h3 : e ≠ 4 := of_decide_eq_false h3
  rw [if_neg h3] at same
  refine x.cond rfl trivial (fun h4 => ?_) (fun h4 => ?_)
  · have h4 : (!decide (e = 0)) = true := h4
    have h4 : e ≠ 0 := by simpa using h4
    rw [if_neg h4] at same
    rw [← same]
    refine x.exit rfl trivial ?_
    exact ⟨.inr rfl, ⟨rfl, rfl, rfl, trivial⟩, trivial, rfl⟩
  have h4 : (!decide (e = 0)) = false := h4
  have h4 : e = 0 := by simpa using h4
  rw [if_pos h4] at same
  have hb : (a : Int) ≤ t.f ∧ t.f < t.t ∧ t.t ≤ s.size := by
    rcases hf with h | h | h
    · exact h.2
    · omega
    · omega
  refine x.back rfl ?_ ⟨⟨n, t.t.toNat, out ++ [t], by omega, by omega, by rw [List.length_append]; simp only [List.length_cons, List.length_nil]; omega, same⟩, by show n < n + 1; omega, ⟨rfl, rfl, ?_, trivial⟩, ⟨⟨rfl, rfl, ?_, fun j hj => app_tok out t j hj⟩, trivial⟩, rfl⟩
  · simp only [AllP, big]; omega
  · show t.t = ((t.t.toNat : Nat) : Int); omega
  · show out.length + 1 = (out ++ [t]).length; simp

theorem refall_spec (s : ByteArray) (hs : s.size ≤ 4611686018427387904) : Pure PG 19 [vs s] (.tup [tv (allV s).1, vi (allV s).2.1, vi (allV s).2.2]) [] := by
  refine Proc.mk (cfg 39) tysOK [] Tryd.func19 rfl (by kernel_rfl) rfl rfl rfl ?_
  intro C x
  refine x.cond rfl trivial (fun h => ?_) (fun h => ?_)
  · have h : (65536 : Int) < s.size := of_decide_eq_true h
    rw [allV, if_pos (by omega)]
    refine x.exit rfl trivial ?_
    exact ⟨.inr rfl, ⟨rfl, rfl, rfl, trivial⟩, trivial, rfl⟩
  have h : ¬ (65536 : Int) < s.size := of_decide_eq_false h
  rw [allV, if_neg (by omega)]
  refine x.pure rfl trivial rfl (bad_spec s (by omega)) ⟨rfl, trivial⟩ ?_
  refine x.cond rfl trivial (fun h2 => ?_) (fun h2 => ?_)
  · have h2 : 0 ≤ badV s s.size 0 := of_decide_eq_true h2
    rw [if_pos h2]
    refine x.exit rfl trivial ?_
    exact ⟨.inr rfl, ⟨rfl, rfl, rfl, trivial⟩, trivial, rfl⟩
  have h2 : ¬ 0 ≤ badV s s.size 0 := of_decide_eq_false h2
  rw [if_neg h2]
  refine x.toLoop rfl trivial ?_
  refine Go.own 6 47 3 (fun j => dTok (([] : List Tok).getD j tok0)) rfl ?_
  refine x.loop (α := TI3 s) (fun y => ⟨[(0, vs s), (6, .own 0), (7, vi (y.a : Int))], [(0, tokC y.out)], 1⟩) (fun y => y.n) ⟨s.size + 1, 0, [], by omega, by omega, by simp, rfl⟩ rfl trivial ⟨⟨rfl, rfl, rfl, trivial⟩, ⟨⟨rfl, rfl, rfl, fun j hj => absurd hj (Nat.not_lt_zero _)⟩, trivial⟩, rfl⟩ (fun y => ?_)
  obtain ⟨n, a, out, hal, fuel, len, same⟩ := y
  change Go C _ ⟨[(0, vs s), (6, .own 0), (7, vi (a : Int))], [(0, tokC out)], 1⟩ _
  obtain ⟨n, rfl⟩ : ∃ m, n = m + 1 := ⟨n - 1, by omega⟩
  refine x.pure rfl trivial rfl (refone_spec s (a : Int) hs) ⟨rfl, rfl, trivial⟩ ?_
  rw [show oneV s (a : Int) = oneN s a by rw [oneV, if_neg (by omega), Int.toNat_natCast]]
  have hf := one_facts hal
  rw [toksF] at same
  obtain ⟨⟨t, place, e⟩, hr⟩ : ∃ r, oneN s a = r := ⟨_, rfl⟩
  rw [hr] at hf same ⊢
  dsimp only at hf same
  refine x.cond rfl trivial (fun h3 => ?_) (fun h3 => ?_)
  · have h3 : e = 4 := of_decide_eq_true h3
    rw [if_pos h3] at same
    rw [← same]
    refine Sx.Go.freeze 0 ?_
    refine x.exit rfl trivial ?_
    exact ⟨.inr rfl, ⟨veq0_d rfl, rfl, rfl, trivial⟩, trivial, rfl⟩
  have h3 : e ≠ 4 := of_decide_eq_false h3
  rw [if_neg h3] at same
  refine x.cond rfl trivial (fun h4 => ?_) (fun h4 => ?_)
  · have h4 : (!decide (e = 0)) = true := h4
    have h4 : e ≠ 0 := by simpa using h4
    rw [if_neg h4] at same
    rw [← same]
    refine x.exit rfl trivial ?_
    exact ⟨.inr rfl, ⟨rfl, rfl, rfl, trivial⟩, trivial, rfl⟩
  have h4 : (!decide (e = 0)) = false := h4
  have h4 : e = 0 := by simpa using h4
  rw [if_pos h4] at same
  have hb : (a : Int) ≤ t.f ∧ t.f < t.t ∧ t.t ≤ s.size := by
    rcases hf with h | h | h
    · exact h.2
    · omega
    · omega
  refine x.back rfl ?_ ⟨⟨n, t.t.toNat, out ++ [t], by omega, by omega, by rw [List.length_append]; simp only [List.length_cons, List.length_nil]; omega, same⟩, by show n < n + 1; omega, ⟨rfl, rfl, ?_, trivial⟩, ⟨⟨rfl, rfl, ?_, fun j hj => app_tok out t j hj⟩, trivial⟩, rfl⟩
  · simp only [AllP, big]; omega
  · show t.t = ((t.t.toNat : Nat) : Int); omega
  · show out.length + 1 = (out ++ [t]).length; simp

theorem toks_len (s : ByteArray) : ∀ (n a : Nat) (out : List Tok), a ≤ s.size → out.length ≤ a → (toksF s n a out).1.length ≤ s.size
  | 0, a, out, _, _ => by simp [toksF]
  | n + 1, a, out, ha, hl => by
    rw [toksF]
    split
    · show out.length ≤ s.size; omega
    · split
      · rename_i h0
        have hf := one_facts ha
        have hb : (a : Int) ≤ (oneN s a).1.f ∧ (oneN s a).1.f < (oneN s a).1.t ∧ (oneN s a).1.t ≤ s.size := by
          rcases hf with h | h | h
          · exact h.2
          · omega
          · omega
        exact toks_len s n _ _ (by omega) (by rw [List.length_append]; simp only [List.length_cons, List.length_nil]; omega)
      · simp
theorem all_len (s : ByteArray) : (allV s).1.length ≤ s.size := by
  unfold allV
  split
  · simp
  · split
    · simp
    · exact toks_len s _ 0 [] (by omega) (by simp)
end Go.Proofs.YtikkppdihepmdaaDoor

/- Tokens one by one, as the program reads them: where it stands, what stands there, and what gives up. -/
namespace Go.Proofs.YtikkppdihepmdaaDoor
open Go.Sx
set_option linter.unusedVariables false
set_option linter.unusedSimpArgs false
set_option maxRecDepth 100000

/-- The tokens lie in the text. -/
def Lies (s : ByteArray) (l : List Tok) : Prop := (∀ t, t ∈ l → 0 ≤ t.f ∧ t.f < t.t ∧ t.t ≤ s.size) ∧ l.length ≤ 140737488355328 ∧ s.size ≤ 140737488355328
abbrev pC (s : ByteArray) (l : List Tok) (n c : Nat) : Ch := .box [vs s, tv l, vi (n : Int), vi (c : Int)]
def atV (s : ByteArray) (l : List Tok) (n : Nat) : Int := if n < l.length then (l.getD n tok0).f else (s.size : Int)
def txV (s : ByteArray) (l : List Tok) (k : Nat) : ByteArray := if k < l.length then s.extract (l.getD k tok0).f.toNat (l.getD k tok0).t.toNat else .empty
def isV (l : List Tok) (n : Nat) (k : Int) : Bool := decide (n < l.length) && decide ((l.getD n tok0).k = k)
abbrev stopT : Nat := 53
abbrev dieO (at_ e : Int) : Out := .die stopT [(.i64, at_), (.i64, e)]

theorem Lies.get {s : ByteArray} {l : List Tok} (h : Lies s l) {n : Nat} (hn : n < l.length) : 0 ≤ (l.getD n tok0).f ∧ (l.getD n tok0).f < (l.getD n tok0).t ∧ (l.getD n tok0).t ≤ s.size := by
  rw [List.getD_eq_getElem?_getD, List.getElem?_eq_getElem hn]
  exact h.1 _ (List.getElem_mem hn)

section
variable (s : ByteArray) (l : List Tok) (n c : Nat) (hl : Lies s l) (hn : n ≤ 1000000000000000) (hc : c ≤ 1000000)

include hn in
theorem at_spec : Proc PG 33 1 [.ptr 0 0] [pC s l n c] (vi (atV s l n)) [pC s l n c] := by
  refine Proc.mk (cfgF 29 1) tysOK [0] Tryd.func33 rfl (by kernel_rfl) rfl rfl rfl ?_
  intro C x
  refine x.quiet rfl trivial mixedP (by kernel_rfl) ?_
  refine x.qdone rfl trivial ?_
  refine x.cond rfl trivial (fun h => ?_) (fun h => ?_)
  · have h : (n : Int) < (l.length : Int) := of_decide_eq_true h
    rw [atV, if_pos (by omega)]
    refine x.quiet rfl trivial mixedP (by kernel_rfl) ?_
    refine x.qdone rfl ?_ ?_
    · show 0 ≤ (n : Int) ∧ (n : Int) < (l.length : Int)
      omega
    refine x.exit rfl trivial ?_
    exact ⟨.inr rfl, rfl, ⟨⟨rfl, veq0_d rfl, rfl, rfl, trivial⟩, trivial⟩, rfl⟩
  · have h : ¬ (n : Int) < (l.length : Int) := of_decide_eq_false h
    rw [atV, if_neg (by omega)]
    refine x.exit rfl trivial ?_
    exact ⟨.inr rfl, rfl, ⟨⟨rfl, veq0_d rfl, rfl, rfl, trivial⟩, trivial⟩, rfl⟩
include hn in
theorem fail_spec (e : Int) : Dies PG 18 [.ptr 0 0, vi e] [pC s l n c] stopT [(.i64, atV s l n), (.i64, e)] := by
  refine ProcO.mk (out := dieO (atV s l n) e) (cfgF 9 1) tysOK [0] Tryd.func18 rfl (by kernel_rfl) rfl rfl rfl ?_
  intro C x
  refine x.call [0] rfl trivial rfl (at_spec s l n c hn) rfl ⟨⟨rfl, rfl⟩, trivial⟩ ⟨⟨rfl, veq0_d rfl, rfl, rfl, trivial⟩, trivial⟩ ?_
  exact x.raise rfl trivial rfl rfl rfl ⟨rfl, rfl⟩

include hn in
theorem room_spec (a b : Int) : ProcO PG 15 1 [.ptr 0 0, vi a, vi b] [pC s l n c] (if b ≤ a then dieO (atV s l n) 3 else .ret (.tup []) [pC s l n c]) := by
  refine ProcO.mk (cfgF 11 1) tysOK [0] Tryd.func15 rfl (by kernel_rfl) rfl rfl (by split <;> rfl) ?_
  intro C x
  refine x.cond rfl trivial (fun h => ?_) (fun h => ?_)
  · have h : b ≤ a := of_decide_eq_true h
    rw [if_pos h]
    exact x.die [0] rfl trivial rfl (fail_spec s l n c hn 3) ⟨⟨rfl, rfl⟩, rfl, trivial⟩ rfl ⟨⟨rfl, veq0_d rfl, rfl, rfl, trivial⟩, trivial⟩ ⟨rfl, rfl⟩
  · have h : ¬ b ≤ a := of_decide_eq_false h
    rw [if_neg h]
    refine x.exit rfl trivial ?_
    exact ⟨.inl rfl, trivial, ⟨⟨rfl, veq0_d rfl, rfl, rfl, trivial⟩, trivial⟩, rfl⟩

include hl hn in
theorem text_spec (k : Nat) (hk : k ≤ 1) : Proc PG 14 1 [.ptr 0 0, vi (k : Int)] [pC s l n c] (vs (txV s l (n + k))) [pC s l n c] := by
  refine Proc.mk (cfgF 40 1) tysOK [0] Tryd.func14 rfl (by kernel_rfl) rfl rfl rfl ?_
  intro C x
  refine x.cond rfl ?_ (fun h => ?_) (fun h => ?_)
  · simp only [AllP, inI64]; omega
  · have h : (n : Int) + k < (l.length : Int) := of_decide_eq_true h
    have h' : n + k < l.length := by omega
    have ht := hl.get h'
    have hi : ((n : Int) + k).toNat = n + k := by omega
    rw [txV, if_pos h']
    have hsz : s.size ≤ 140737488355328 := hl.2.2
    refine x.quiet rfl trivial mixedP (by kernel_rfl) ?_
    refine x.qdone rfl ?_ ?_
    · simp only [AllP, hi]
      omega
    refine x.exit rfl trivial ?_
    refine ⟨.inr rfl, ?_, ⟨⟨rfl, veq0_d rfl, rfl, rfl, trivial⟩, trivial⟩, rfl⟩
    rw [← hi]; rfl
  · have h : ¬ (n : Int) + k < (l.length : Int) := of_decide_eq_false h
    rw [txV, if_neg (by omega)]
    refine x.exit rfl trivial ?_
    exact ⟨.inr rfl, rfl, ⟨⟨rfl, veq0_d rfl, rfl, rfl, trivial⟩, trivial⟩, rfl⟩

theorem is_spec (k : Int) : Proc PG 35 1 [.ptr 0 0, .d (.int .u8 k)] [pC s l n c] (vb (isV l n k)) [pC s l n c] := by
  refine Proc.mk (cfgF 30 1) tysOK [0] Tryd.func35 rfl (by kernel_rfl) rfl rfl rfl ?_
  intro C x
  refine x.quiet rfl trivial mixedP (by kernel_rfl) ?_
  refine x.qdone rfl ?_ ?_
  · simp only [AllP, decide_eq_true_eq]
    omega
  refine x.exit rfl trivial ?_
  refine ⟨.inr rfl, ?_, ⟨⟨rfl, veq0_d rfl, rfl, rfl, trivial⟩, trivial⟩, rfl⟩
  show VEq0 (vb (decide ((n : Int) < (l.length : Int)) && decide ((l.getD ((n : Int).toNat) tok0).k = k))) (vb (isV l n k))
  rw [isV, Int.toNat_natCast, show decide ((n : Int) < (l.length : Int)) = decide (n < l.length) by simp]
  rfl

include hl hn in
theorem take_spec (k : Int) : ProcO PG 58 1 [.ptr 0 0, .d (.int .u8 k)] [pC s l n c] (if isV l n k = true then .ret (vs (txV s l n)) [pC s l (n + 1) c] else dieO (atV s l n) 7) := by
  refine ProcO.mk (cfgF 22 1) tysOK [0] Tryd.func58 rfl (by kernel_rfl) rfl rfl (by split <;> rfl) ?_
  intro C x
  refine x.call [0] rfl trivial rfl (is_spec s l n c k) rfl ⟨⟨rfl, rfl⟩, rfl, trivial⟩ ⟨⟨rfl, veq0_d rfl, rfl, rfl, trivial⟩, trivial⟩ ?_
  refine x.cond rfl trivial (fun h => ?_) (fun h => ?_)
  · have h : isV l n k = false := by simpa using h
    rw [h, if_neg (by simp)]
    exact x.die [0] rfl trivial rfl (fail_spec s l n c hn 7) ⟨⟨rfl, rfl⟩, rfl, trivial⟩ rfl ⟨⟨rfl, veq0_d rfl, rfl, rfl, trivial⟩, trivial⟩ ⟨rfl, rfl⟩
  · have h : isV l n k = true := by simpa using h
    rw [h, if_pos rfl]
    refine x.call [0] rfl trivial rfl (text_spec s l n c hl hn 0 (by omega)) rfl ⟨⟨rfl, rfl⟩, rfl, trivial⟩ ⟨⟨rfl, veq0_d rfl, rfl, rfl, trivial⟩, trivial⟩ ?_
    refine x.exit rfl ?_ ?_
    · simp only [AllP, inI64]; omega
    · exact ⟨.inr rfl, rfl, ⟨⟨rfl, veq0_d rfl, by show VEq0 (vi ((n : Int) + 1)) (vi ((n + 1 : Nat) : Int)); rw [Int.natCast_add]; rfl, rfl, trivial⟩, trivial⟩, rfl⟩

include hl hn in
theorem need_spec (t : ByteArray) : ProcO PG 38 1 [.ptr 0 0, vs t] [pC s l n c] (if (txV s l n).data.toList = t.data.toList then .ret (.tup []) [pC s l (n + 1) c] else dieO (atV s l n) 7) := by
  refine ProcO.mk (cfgF 17 1) tysOK [0] Tryd.func38 rfl (by kernel_rfl) rfl rfl (by split <;> rfl) ?_
  intro C x
  refine x.call [0] rfl trivial rfl (text_spec s l n c hl hn 0 (by omega)) rfl ⟨⟨rfl, rfl⟩, rfl, trivial⟩ ⟨⟨rfl, veq0_d rfl, rfl, rfl, trivial⟩, trivial⟩ ?_
  refine x.cond rfl trivial (fun h => ?_) (fun h => ?_)
  · have h : (!decide ((txV s l n).data.toList = t.data.toList)) = true := h
    rw [if_neg (by simpa using h)]
    exact x.die [0] rfl trivial rfl (fail_spec s l n c hn 7) ⟨⟨rfl, rfl⟩, rfl, trivial⟩ rfl ⟨⟨rfl, veq0_d rfl, rfl, rfl, trivial⟩, trivial⟩ ⟨rfl, rfl⟩
  · have h : (!decide ((txV s l n).data.toList = t.data.toList)) = false := h
    rw [if_pos (by simpa using h)]
    refine x.exit rfl ?_ ?_
    · simp only [AllP, inI64]; omega
    · exact ⟨.inl rfl, trivial, ⟨⟨rfl, veq0_d rfl, by show VEq0 (vi ((n : Int) + 1)) (vi ((n + 1 : Nat) : Int)); rw [Int.natCast_add]; rfl, rfl, trivial⟩, trivial⟩, rfl⟩

include hl hn in
theorem name7_spec : ProcO PG 34 1 [.ptr 0 0] [pC s l n c] (if isV l n 1 = true then .ret (vs (txV s l n)) [pC s l (n + 1) c] else dieO (atV s l n) 7) := by
  refine ProcO.mk (cfgF 5 1) tysOK [0] Tryd.func34 rfl (by kernel_rfl) rfl rfl (by split <;> rfl) ?_
  intro C x
  have ht := take_spec s l n c hl hn 1
  cases h : isV l n 1 with
  | false =>
    rw [h, if_neg (by simp)] at ht
    rw [if_neg (by simp)]
    exact x.die [0] rfl trivial rfl ht ⟨⟨rfl, rfl⟩, rfl, trivial⟩ rfl ⟨⟨rfl, veq0_d rfl, rfl, rfl, trivial⟩, trivial⟩ ⟨rfl, rfl⟩
  | true =>
    rw [h, if_pos rfl] at ht
    rw [if_pos rfl]
    refine x.call [0] rfl trivial rfl ht rfl ⟨⟨rfl, rfl⟩, rfl, trivial⟩ ⟨⟨rfl, veq0_d rfl, rfl, rfl, trivial⟩, trivial⟩ ?_
    refine x.exit rfl trivial ?_
    exact ⟨.inr rfl, rfl, ⟨⟨rfl, veq0_d rfl, rfl, rfl, trivial⟩, trivial⟩, rfl⟩
def begB (s : ByteArray) (l : List Tok) (n : Nat) : Bool := isV l n 1 && decide ((txV s l (n + 1)).data.toList = [58])
include hl hn in
theorem begins_spec : Proc PG 40 1 [.ptr 0 0] [pC s l n c] (vb (begB s l n)) [pC s l n c] := by
  refine Proc.mk (cfgF 10 1) tysOK [0] Tryd.func40 rfl (by kernel_rfl) rfl rfl rfl ?_
  intro C x
  refine x.call [0] rfl trivial rfl (is_spec s l n c 1) rfl ⟨⟨rfl, rfl⟩, rfl, trivial⟩ ⟨⟨rfl, veq0_d rfl, rfl, rfl, trivial⟩, trivial⟩ ?_
  refine x.callG [0] rfl trivial rfl (fun _ => text_spec s l n c hl hn 1 (by omega)) rfl ⟨⟨rfl, rfl⟩, rfl, trivial⟩ ⟨⟨rfl, veq0_d rfl, rfl, rfl, trivial⟩, trivial⟩ ⟨⟨rfl, veq0_d rfl, rfl, rfl, trivial⟩, trivial⟩ ?_
  refine x.exit rfl trivial ?_
  exact ⟨.inr rfl, rfl, ⟨⟨rfl, veq0_d rfl, rfl, rfl, trivial⟩, trivial⟩, rfl⟩

include hl hn in
theorem number7_spec : ProcO PG 36 1 [.ptr 0 0] [pC s l n c] (if isV l n 3 = true then .ret (vi (numV (txV s l n)).1) [pC s l (n + 1) c] else dieO (atV s l n) 7) := by
  refine ProcO.mk (cfgF 12 1) tysOK [0] Tryd.func36 rfl (by kernel_rfl) rfl rfl (by split <;> rfl) ?_
  intro C x
  have ht := take_spec s l n c hl hn 3
  cases h : isV l n 3 with
  | false =>
    rw [h, if_neg (by simp)] at ht
    rw [if_neg (by simp)]
    exact x.die [0] rfl trivial rfl ht ⟨⟨rfl, rfl⟩, rfl, trivial⟩ rfl ⟨⟨rfl, veq0_d rfl, rfl, rfl, trivial⟩, trivial⟩ ⟨rfl, rfl⟩
  | true =>
    rw [h, if_pos rfl] at ht
    rw [if_pos rfl]
    refine x.call [0] rfl trivial rfl ht rfl ⟨⟨rfl, rfl⟩, rfl, trivial⟩ ⟨⟨rfl, veq0_d rfl, rfl, rfl, trivial⟩, trivial⟩ ?_
    refine x.pure rfl trivial rfl (number_spec (txV s l n)) ⟨rfl, trivial⟩ ?_
    refine x.exit rfl trivial ?_
    exact ⟨.inr rfl, rfl, ⟨⟨rfl, veq0_d rfl, rfl, rfl, trivial⟩, trivial⟩, rfl⟩
end
end Go.Proofs.YtikkppdihepmdaaDoor

/- Lists of names, as the program reads them. -/
namespace Go.Proofs.YtikkppdihepmdaaDoor
open Go.Sx
set_option linter.unusedVariables false
set_option linter.unusedSimpArgs false
set_option maxRecDepth 100000

abbrev strC (o : List ByteArray) : Ch := .vec 9 1 o.length fun i => [.str (o.getD i .empty)]
theorem app_str (o : List ByteArray) (t : ByteArray) (j : Nat) (hj : j < o.length + 1) : app o.length (fun i => [D.str (o.getD i .empty)]) (fun _ => [D.str t]) j = [D.str ((o ++ [t]).getD j .empty)] := by
  unfold app
  by_cases h : j < o.length
  · show zipIte (j < o.length) [D.str (o.getD j .empty)] [D.str t] = _
    rw [List.getD_eq_getElem?_getD, List.getD_eq_getElem?_getD, List.getElem?_append_left h]
    simp only [zipIte, iteD_pos h]
    rw [if_pos h]
  · show zipIte (j < o.length) [D.str (o.getD j .empty)] [D.str t] = _
    have e : j = o.length := by omega
    rw [List.getD_eq_getElem?_getD (l := o ++ [t]), List.getElem?_append_right (by omega), e, Nat.sub_self]
    simp only [zipIte, iteD_neg (Nat.lt_irrefl _)]
    rw [if_neg (Nat.lt_irrefl _)]
    rfl

section
variable (s : ByteArray) (l : List Tok) (n c : Nat) (hl : Lies s l) (hn : n ≤ 1000000000000000) (hc : c ≤ 1000000)
include hl hn in
theorem names1_spec (o : List ByteArray) (ho : o.length ≤ 1000) : ProcO PG 60 3 [.ptr 1 0, .ptr 2 0] [pC s l n c, .box [.own 3], .box [.ptr 0 0], strC o] (if isV l n 1 = true then .ret (.tup []) [pC s l (n + 1) c, .box [.own 3], .box [.ptr 0 0], strC (o ++ [txV s l n])] else dieO (atV s l n) 7) := by
  refine ProcO.mk (cfgF 7 3) tysOK [0, 1, 2, 3] Tryd.func60 rfl (by kernel_rfl) rfl rfl (by split <;> rfl) ?_
  intro C x
  have ht := name7_spec s l n c hl hn
  cases h : isV l n 1 with
  | false =>
    rw [h, if_neg (by simp)] at ht
    rw [if_neg (by simp)]
    refine x.draw [0] [] [0, 1] [2, 3] [4, 5] rfl trivial mixedP (by kernel_rfl) RetO.quiet rfl trivial (fun C1 x1 => ?_)
    exact x1.die [0] rfl trivial rfl ht ⟨⟨rfl, rfl⟩, trivial⟩ rfl ⟨⟨rfl, veq0_d rfl, rfl, rfl, trivial⟩, trivial⟩ ⟨⟨_, rfl⟩, rfl, rfl, rfl⟩
  | true =>
    rw [h, if_pos rfl] at ht
    rw [if_pos rfl]
    refine x.draw [0] [] [0, 1] [2, 3] [4, 5] rfl trivial mixedP (by kernel_rfl) RetO.quiet rfl trivial (fun C1 x1 => ?_)
    refine x1.call [0] rfl trivial rfl ht rfl ⟨⟨rfl, rfl⟩, trivial⟩ ⟨⟨rfl, veq0_d rfl, rfl, rfl, trivial⟩, trivial⟩ ?_
    refine x1.back rfl trivial ?_
    refine x1.back rfl trivial ?_
    refine x.exit rfl ?_ ?_
    · simp only [AllP, big]; omega
    · refine ⟨.inl rfl, trivial, ⟨⟨rfl, veq0_d rfl, rfl, rfl, trivial⟩, ⟨rfl, trivial⟩, ⟨⟨rfl, rfl⟩, trivial⟩, ⟨rfl, rfl, ?_, fun j hj => app_str o _ j hj⟩, trivial⟩, rfl⟩
      show o.length + 1 = (o ++ [txV s l n]).length
      simp
end

/-- Names with , between; the place and number of the first fault, or where it stands then, and the names. -/
def namesF (s : ByteArray) (l : List Tok) : Nat → Nat → Nat → List ByteArray → Except (Int × Int) (Nat × List ByteArray)
  | 0, _, _, _ => .error (0, 0)
  | f + 1, n, k, out =>
    if isV l n 1 = true then
      if 6 ≤ k then .error (atV s l n, 3)
      else if (txV s l (n + 1)).data.toList = [44] then namesF s l f (n + 2) (k + 1) (out ++ [txV s l n])
      else .ok (n + 1, out ++ [txV s l n])
    else .error (atV s l n, 7)
def namesO (s : ByteArray) (l : List Tok) (c : Nat) : Except (Int × Int) (Nat × List ByteArray) → Out
  | .ok (n, o) => .ret (.tup []) [pC s l n c, .box [.own 3], .box [.ptr 0 0], strC o]
  | .error (a, e) => dieO a e
structure LW (s : ByteArray) (l : List Tok) (R : Except (Int × Int) (Nat × List ByteArray)) where
  f : Nat
  n : Nat
  k : Nat
  out : List ByteArray
  hf : l.length + 2 ≤ f + n
  hn : n ≤ l.length + 1
  hk : k ≤ 6
  ho : out.length = k
  same : namesF s l f n k out = R
theorem isV_lt {l : List Tok} {n : Nat} {k : Int} (h : isV l n k = true) : n < l.length := by
  unfold isV at h
  simp only [Bool.and_eq_true, decide_eq_true_eq] at h
  exact h.1

section
variable (s : ByteArray) (l : List Tok) (n c : Nat) (hl : Lies s l) (hn : n ≤ l.length)
include hl hn in
theorem list_names : ProcO PG 59 3 [.ptr 0 0, vi 6, .fn 60 [.ptr 1 0, .ptr 2 0]] [pC s l n c, .box [.own 3], .box [.ptr 0 0], strC []] (namesO s l c (namesF s l (l.length + 2) n 0 [])) := by
  obtain ⟨R, hR⟩ : ∃ R, namesF s l (l.length + 2) n 0 [] = R := ⟨_, rfl⟩
  rw [hR]
  have hll := hl.2.1
  refine ProcO.mk (cfgF 27 3) tysOK [0, 1, 2, 3] Tryd.func59 rfl (by kernel_rfl) rfl rfl (by rcases R with ⟨a, e⟩ | ⟨n, o⟩ <;> rfl) ?_
  intro C x
  refine x.loop (α := LW s l R) (fun y => ⟨[(0, .ptr 0 0), (1, vi 6), (2, .fn 60 [.ptr 1 0, .ptr 2 0]), (6, vi (y.k : Int))], [(0, pC s l y.n c), (1, .box [.own 3]), (2, .box [.ptr 0 0]), (3, strC y.out)], 4⟩) (fun y => y.f) ⟨l.length + 2, n, 0, [], by omega, by omega, by omega, rfl, hR⟩ rfl trivial ⟨⟨⟨rfl, rfl⟩, rfl, rfl, rfl, trivial⟩, ⟨⟨rfl, veq0_d rfl, rfl, rfl, trivial⟩, ⟨rfl, trivial⟩, ⟨⟨rfl, rfl⟩, trivial⟩, ⟨rfl, rfl, rfl, fun j hj => absurd hj (Nat.not_lt_zero _)⟩, trivial⟩, rfl⟩ (fun y => ?_)
  obtain ⟨f, n, k, out, hf, hn, hk, ho, same⟩ := y
  have hn2 : n ≤ 1000000000000000 := by omega
  change Go C _ ⟨[(0, .ptr 0 0), (1, vi 6), (2, .fn 60 [.ptr 1 0, .ptr 2 0]), (6, vi (k : Int))], [(0, pC s l n c), (1, .box [.own 3]), (2, .box [.ptr 0 0]), (3, strC out)], 4⟩ _
  refine x.call [0] rfl trivial rfl (is_spec s l n c 1) rfl ⟨⟨rfl, rfl⟩, rfl, trivial⟩ ⟨⟨rfl, veq0_d rfl, rfl, rfl, trivial⟩, trivial⟩ ?_
  have h1 := names1_spec s l n c hl hn2 out (by omega)
  cases f with
  | zero => omega
  | succ f =>
  rw [namesF] at same
  refine x.cond rfl trivial (fun h => ?_) (fun h => ?_)
  · have h : isV l n 1 = true := h
    have hlt := isV_lt h
    rw [if_pos h] at same h1
    have h2 := room_spec s l n c hn2 (k : Int) 6
    by_cases h3 : 6 ≤ k
    · rw [if_pos h3] at same
      rw [if_pos (by omega)] at h2
      exact x.die [0] rfl trivial rfl h2 ⟨⟨rfl, rfl⟩, rfl, rfl, trivial⟩ rfl ⟨⟨rfl, veq0_d rfl, rfl, rfl, trivial⟩, trivial⟩ (by rw [← same]; exact ⟨rfl, rfl⟩)
    · rw [if_neg h3] at same
      rw [if_neg (by omega)] at h2
      refine x.call [0] rfl trivial rfl h2 rfl ⟨⟨rfl, rfl⟩, rfl, rfl, trivial⟩ ⟨⟨rfl, veq0_d rfl, rfl, rfl, trivial⟩, trivial⟩ ?_
      refine x.call [0, 1, 2, 3] rfl trivial rfl h1 rfl ⟨⟨rfl, rfl⟩, ⟨rfl, rfl⟩, trivial⟩ ⟨⟨rfl, veq0_d rfl, rfl, rfl, trivial⟩, ⟨rfl, trivial⟩, ⟨⟨rfl, rfl⟩, trivial⟩, ⟨rfl, rfl, rfl, fun _ _ => rfl⟩, trivial⟩ ?_
      refine x.call [0] rfl trivial rfl (text_spec s l (n + 1) c hl (by omega) 0 (by omega)) rfl ⟨⟨rfl, rfl⟩, rfl, trivial⟩ ⟨⟨rfl, veq0_d rfl, rfl, rfl, trivial⟩, trivial⟩ ?_
      refine x.cond rfl trivial (fun h4 => ?_) (fun h4 => ?_)
      · have h4 : (!decide ((txV s l (n + 1)).data.toList = [44])) = true := h4
        rw [if_neg (by simpa using h4)] at same
        refine x.exit rfl trivial ?_
        rw [← same]
        exact ⟨.inr rfl, trivial, ⟨⟨rfl, veq0_d rfl, rfl, rfl, trivial⟩, ⟨rfl, trivial⟩, ⟨⟨rfl, rfl⟩, trivial⟩, ⟨rfl, rfl, rfl, fun _ _ => rfl⟩, trivial⟩, rfl⟩
      · have h4 : (!decide ((txV s l (n + 1)).data.toList = [44])) = false := h4
        rw [if_pos (by simpa using h4)] at same
        refine x.back rfl ?_ ⟨⟨f, n + 2, k + 1, out ++ [txV s l n], by omega, by omega, by omega, by rw [List.length_append, ho]; rfl, same⟩, by show f < f + 1; omega, ⟨⟨rfl, rfl⟩, rfl, rfl, ?_, trivial⟩, ⟨⟨rfl, veq0_d rfl, ?_, rfl, trivial⟩, ⟨rfl, trivial⟩, ⟨⟨rfl, rfl⟩, trivial⟩, ⟨rfl, rfl, rfl, fun _ _ => rfl⟩, trivial⟩, rfl⟩
        · simp only [AllP, inI64]; omega
        · show VEq0 (vi ((k : Int) + 1)) (vi ((k + 1 : Nat) : Int)); rw [Int.natCast_add]; rfl
        · show VEq0 (vi (((n + 1 : Nat) : Int) + 1)) (vi ((n + 2 : Nat) : Int)); rw [show (n + 2 : Nat) = (n + 1) + 1 by omega, Int.natCast_add (n + 1) 1]; rfl
  · have h : isV l n 1 = false := h
    rw [h, if_neg (by simp)] at same h1
    exact x.die [0, 1, 2, 3] rfl trivial rfl h1 ⟨⟨rfl, rfl⟩, ⟨rfl, rfl⟩, trivial⟩ rfl ⟨⟨rfl, veq0_d rfl, rfl, rfl, trivial⟩, ⟨rfl, trivial⟩, ⟨⟨rfl, rfl⟩, trivial⟩, ⟨rfl, rfl, rfl, fun _ _ => rfl⟩, trivial⟩ (by rw [← same]; exact ⟨rfl, rfl⟩)
end

theorem namesF_le {s : ByteArray} {l : List Tok} : ∀ {f n k : Nat} {out : List ByteArray} {n' : Nat} {o : List ByteArray}, namesF s l f n k out = .ok (n', o) → n' ≤ l.length ∧ n < n' ∧ (out.length = k → k ≤ 6 → o.length ≤ 6)
  | 0, n, k, out, n', o, h => by simp [namesF] at h
  | f + 1, n, k, out, n', o, h => by
    rw [namesF] at h
    split at h
    · rename_i h1
      have h1 := isV_lt h1
      split at h
      · cases h
      · split at h
        · obtain ⟨e1, e2, e3⟩ := namesF_le h
          exact ⟨e1, by omega, fun h2 h3 => e3 (by rw [List.length_append, h2]; rfl) (by omega)⟩
        · simp only [Except.ok.injEq, Prod.mk.injEq] at h
          obtain ⟨rfl, rfl⟩ := h
          exact ⟨by omega, by omega, fun h2 h3 => by rw [List.length_append, h2]; show k + 1 ≤ 6; omega⟩
    · cases h
theorem tx_lt {s : ByteArray} {l : List Tok} {n : Nat} {b : UInt8} {r : List UInt8} (h : (txV s l n).data.toList = b :: r) : n < l.length := by
  unfold txV at h
  split at h
  · assumption
  · cases h

/-- What closes it. -/
def closeV {α : Type} (s : ByteArray) (l : List Tok) (b : UInt8) : Except (Int × Int) (Nat × α) → Except (Int × Int) (Nat × α)
  | .error e => .error e
  | .ok (n, o) => if (txV s l n).data.toList = [b] then .ok (n + 1, o) else .error (atV s l n, 7)
/-- Names in brackets. -/
def namesV (s : ByteArray) (l : List Tok) (n : Nat) : Except (Int × Int) (Nat × List ByteArray) :=
  if (txV s l n).data.toList = [40] then
    if (txV s l (n + 1)).data.toList = [41] then .ok (n + 2, [])
    else closeV s l 41 (namesF s l (l.length + 2) (n + 1) 0 [])
  else .error (atV s l n, 7)
def namesVO (s : ByteArray) (l : List Tok) (c : Nat) : Except (Int × Int) (Nat × List ByteArray) → Out
  | .ok (n, o) => .ret (.own 1) [pC s l n c, strC o]
  | .error (a, e) => dieO a e

section
variable (s : ByteArray) (l : List Tok) (n c : Nat) (hl : Lies s l) (hn : n ≤ l.length)
include hl hn in
theorem names7_spec : ProcO PG 37 1 [.ptr 0 0] [pC s l n c] (namesVO s l c (namesV s l n)) := by
  have hll := hl.2.1
  refine ProcO.mk (cfgF 15 1) tysOK [0, 3] Tryd.func37 rfl (by kernel_rfl) rfl rfl (by rcases namesV s l n with ⟨a, e⟩ | ⟨n, o⟩ <;> rfl) ?_
  intro C x
  refine x.op rfl trivial ?_
  refine Go.ownB 2 0 9 1 (fun j => [D.str (([] : List ByteArray).getD j .empty)]) rfl rfl ?_
  have h1 := need_spec s l n c hl (by omega) ⟨#[40]⟩
  by_cases hp : (txV s l n).data.toList = [40]
  · rw [if_pos hp] at h1
    have hlt := tx_lt hp
    refine x.call [0] rfl trivial rfl h1 rfl ⟨⟨rfl, rfl⟩, rfl, trivial⟩ ⟨⟨rfl, veq0_d rfl, rfl, rfl, trivial⟩, trivial⟩ ?_
    refine x.call [0] rfl trivial rfl (text_spec s l (n + 1) c hl (by omega) 0 (by omega)) rfl ⟨⟨rfl, rfl⟩, rfl, trivial⟩ ⟨⟨rfl, veq0_d rfl, rfl, rfl, trivial⟩, trivial⟩ ?_
    refine x.cond rfl trivial (fun h2 => ?_) (fun h2 => ?_)
    · have h2 : (!decide ((txV s l (n + 1)).data.toList = [41])) = true := h2
      have h3 : ¬ (txV s l (n + 1)).data.toList = [41] := by simpa using h2
      have hls := list_names s l (n + 1) c hl (by omega)
      obtain ⟨R, hR⟩ : ∃ R, namesF s l (l.length + 2) (n + 1) 0 [] = R := ⟨_, rfl⟩
      have hV : namesV s l n = closeV s l 41 R := by
        rw [namesV, if_pos hp, if_neg h3, hR]
      rw [hR] at hls
      rcases R with ⟨a, e⟩ | ⟨n', o⟩
      · refine x.die [0, 2, 1, 3] rfl trivial rfl hls ⟨⟨rfl, rfl⟩, rfl, rfl, trivial⟩ rfl ⟨⟨rfl, veq0_d rfl, rfl, rfl, trivial⟩, ⟨rfl, trivial⟩, ⟨⟨rfl, rfl⟩, trivial⟩, ⟨rfl, rfl, rfl, fun _ _ => rfl⟩, trivial⟩ ?_
        rw [hV]
        exact ⟨rfl, rfl⟩
      · obtain ⟨e1, e2, e3⟩ := namesF_le hR
        refine x.call [0, 2, 1, 3] rfl trivial rfl hls rfl ⟨⟨rfl, rfl⟩, rfl, rfl, trivial⟩ ⟨⟨rfl, veq0_d rfl, rfl, rfl, trivial⟩, ⟨rfl, trivial⟩, ⟨⟨rfl, rfl⟩, trivial⟩, ⟨rfl, rfl, rfl, fun _ _ => rfl⟩, trivial⟩ ?_
        have h4 := need_spec s l n' c hl (by omega) ⟨#[41]⟩
        by_cases h5 : (txV s l n').data.toList = [41]
        · rw [if_pos h5] at h4
          refine x.call [0] rfl trivial rfl h4 rfl ⟨⟨rfl, rfl⟩, rfl, trivial⟩ ⟨⟨rfl, veq0_d rfl, rfl, rfl, trivial⟩, trivial⟩ ?_
          refine x.exit rfl trivial ?_
          rw [hV, closeV, if_pos h5]
          exact ⟨.inr rfl, rfl, ⟨⟨rfl, veq0_d rfl, rfl, rfl, trivial⟩, ⟨rfl, rfl, rfl, fun _ _ => rfl⟩, trivial⟩, rfl⟩
        · rw [if_neg h5] at h4
          refine x.die [0] rfl trivial rfl h4 ⟨⟨rfl, rfl⟩, rfl, trivial⟩ rfl ⟨⟨rfl, veq0_d rfl, rfl, rfl, trivial⟩, trivial⟩ ?_
          rw [hV, closeV, if_neg h5]
          exact ⟨rfl, rfl⟩
    · have h2 : (!decide ((txV s l (n + 1)).data.toList = [41])) = false := h2
      have h3 : (txV s l (n + 1)).data.toList = [41] := by simpa using h2
      have h4 := need_spec s l (n + 1) c hl (by omega) ⟨#[41]⟩
      rw [if_pos h3] at h4
      refine x.call [0] rfl trivial rfl h4 rfl ⟨⟨rfl, rfl⟩, rfl, trivial⟩ ⟨⟨rfl, veq0_d rfl, rfl, rfl, trivial⟩, trivial⟩ ?_
      refine x.exit rfl trivial ?_
      rw [namesV, if_pos hp, if_pos h3]
      exact ⟨.inr rfl, rfl, ⟨⟨rfl, veq0_d rfl, rfl, rfl, trivial⟩, ⟨rfl, rfl, rfl, fun _ _ => rfl⟩, trivial⟩, rfl⟩
  · rw [if_neg hp] at h1
    refine x.die [0] rfl trivial rfl h1 ⟨⟨rfl, rfl⟩, rfl, trivial⟩ rfl ⟨⟨rfl, veq0_d rfl, rfl, rfl, trivial⟩, trivial⟩ ?_
    rw [namesV, if_neg hp]
    exact ⟨rfl, rfl⟩
end
end Go.Proofs.YtikkppdihepmdaaDoor

/- What stands behind the words of instructions without a value. -/
namespace Go.Proofs.YtikkppdihepmdaaDoor
open Go.Sx
set_option linter.unusedVariables false
set_option linter.unusedSimpArgs false
set_option maxRecDepth 100000

structure Ins where
  kind : Int
  op : Int
  dst : ByteArray
  ref : ByteArray
  alt : ByteArray
  args : List ByteArray
  frm : List ByteArray
  num : Int
  at_ : Int
abbrev iC (x : Ins) : Ch := .box [.d (.int .u8 x.kind), .d (.int .u8 x.op), vs x.dst, vs x.ref, vs x.alt, .own 2, .own 3, vi x.num, vi x.at_]
abbrev HX (s : ByteArray) (l : List Tok) (n c : Nat) (x : Ins) : List Ch := [pC s l n c, iC x, strC x.args, strC x.frm]
def outI (s : ByteArray) (l : List Tok) (c : Nat) : Except (Int × Int) (Nat × Ins) → Out
  | .ok (n, x) => .ret (.tup []) (HX s l n c x)
  | .error (a, e) => dieO a e
theorem okI {s : ByteArray} {l : List Tok} {n c : Nat} {x : Ins} {m : Nat} (hm : 2 ≤ m) (r : Except (Int × Int) (Nat × Ins)) : okOut (cfgF m 2) [.ptr 0 0, .ptr 1 0] (HX s l n c x) (outI s l c r) = true := by
  have h : Nat.ble 2 m = true := by simpa using hm
  rcases r with ⟨a, e⟩ | ⟨n', x'⟩
  · show (Nat.ble 2 m && _ && _) = true
    rw [h]; rfl
  · show (Nat.ble 2 m && _ && _ && _ && _) = true
    rw [h]; rfl

/-- A name. -/
def nmV (s : ByteArray) (l : List Tok) (n : Nat) : Except (Int × Int) (Nat × ByteArray) := if isV l n 1 = true then .ok (n + 1, txV s l n) else .error (atV s l n, 7)
def bnd {α β : Type} (r : Except (Int × Int) (Nat × α)) (k : Nat → α → Except (Int × Int) (Nat × β)) : Except (Int × Int) (Nat × β) :=
  match r with
  | .error e => .error e
  | .ok (n, a) => k n a
theorem len1 (o : List ByteArray) (t : ByteArray) : o.length + 1 = (o ++ [t]).length := by simp
/-- A name that is an argument more. -/
def argV (s : ByteArray) (l : List Tok) (n : Nat) (x : Ins) : Except (Int × Int) (Nat × Ins) := bnd (nmV s l n) fun n a => .ok (n, { x with args := x.args ++ [a] })
def act1V (s : ByteArray) (l : List Tok) (n : Nat) (x : Ins) : Except (Int × Int) (Nat × Ins) :=
  bnd (nmV s l n) fun n r => let x : Ins := { { x with kind := 6 } with ref := r }; bnd (argV s l n x) fun n x => bnd (argV s l n x) fun n x => .ok (n, x)
def act2V (s : ByteArray) (l : List Tok) (n : Nat) (x : Ins) : Except (Int × Int) (Nat × Ins) :=
  bnd (nmV s l n) fun n r => let x : Ins := { { x with kind := 9 } with ref := r }; bnd (argV s l n x) fun n x => .ok (n, x)
def act3V (s : ByteArray) (l : List Tok) (n : Nat) (x : Ins) : Except (Int × Int) (Nat × Ins) :=
  bnd (nmV s l n) fun n r => let x : Ins := { { x with kind := 11 } with ref := r }; .ok (n, x)
def act4V (s : ByteArray) (l : List Tok) (n : Nat) (x : Ins) : Except (Int × Int) (Nat × Ins) :=
  bnd (argV s l n { x with kind := 12 }) fun n x => bnd (nmV s l n) fun n r => let x : Ins := { x with ref := r }; bnd (nmV s l n) fun n r => let x : Ins := { x with alt := r }; .ok (n, x)
def act5V (s : ByteArray) (l : List Tok) (n : Nat) (x : Ins) : Except (Int × Int) (Nat × Ins) :=
  bnd (argV s l n { x with kind := 13 }) fun n x => .ok (n, x)

section
variable (s : ByteArray) (l : List Tok) (n c : Nat) (hl : Lies s l) (hn : n ≤ l.length) (y : Ins) (hy : y.args.length ≤ 1000)
include hl hn hy in
theorem act1_spec : ProcO PG 84 2 [.ptr 0 0, .ptr 1 0] (HX s l n c y) (outI s l c (act1V s l n y)) := by
  have hll := hl.2.1
  refine ProcO.mk (cfgF 34 2) tysOK [0, 1, 2, 3] Tryd.func84 rfl (by kernel_rfl) rfl rfl (okI (by omega) _) ?_
  intro C x
  have h1 := name7_spec s l n c hl (by omega)
  cases e1 : isV l n 1 with
  | false =>
    rw [e1, if_neg (by simp)] at h1
    refine x.die [0] rfl trivial rfl h1 ⟨⟨rfl, rfl⟩, trivial⟩ rfl ⟨⟨rfl, veq0_d rfl, rfl, rfl, trivial⟩, trivial⟩ ?_
    simp only [act1V, argV, nmV, bnd, e1,  if_true, Bool.false_eq_true, if_false]
    exact ⟨rfl, rfl⟩
  | true =>
    rw [e1, if_pos rfl] at h1
    have l1 := isV_lt e1
    refine x.call [0] rfl trivial rfl h1 rfl ⟨⟨rfl, rfl⟩, trivial⟩ ⟨⟨rfl, veq0_d rfl, rfl, rfl, trivial⟩, trivial⟩ ?_
    have h2 := name7_spec s l (n + 1) c hl (by omega)
    cases e2 : isV l (n + 1) 1 with
    | false =>
      rw [e2, if_neg (by simp)] at h2
      refine x.draw [0] [0, 1, 5] [2, 3, 4] [6, 7] [8, 9, 10, 11] rfl trivial mixedP (by kernel_rfl) RetO.quiet rfl trivial (fun C1 x1 => ?_)
      refine x1.die [0] rfl trivial rfl h2 ⟨⟨rfl, rfl⟩, trivial⟩ rfl ⟨⟨rfl, veq0_d rfl, rfl, rfl, trivial⟩, trivial⟩ ⟨⟨_, rfl⟩, rfl, ?_⟩
      simp only [act1V, argV, nmV, bnd, e1, e2,  if_true, Bool.false_eq_true, if_false]
      exact ⟨rfl, rfl⟩
    | true =>
      rw [e2, if_pos rfl] at h2
      have l2 := isV_lt e2
      refine x.draw [0] [0, 1, 5] [2, 3, 4] [6, 7] [8, 9, 10, 11] rfl trivial mixedP (by kernel_rfl) RetO.quiet rfl trivial (fun C1 x1 => ?_)
      refine x1.call [0] rfl trivial rfl h2 rfl ⟨⟨rfl, rfl⟩, trivial⟩ ⟨⟨rfl, veq0_d rfl, rfl, rfl, trivial⟩, trivial⟩ ?_
      refine x1.back rfl trivial ?_
      refine x1.back rfl trivial ?_
      refine x.code rfl (by simp only [AllP, big, List.length_append, List.length_cons, List.length_nil]; omega) ?_
      refine x.le (s' := ⟨[(0, .ptr 0 0), (1, .ptr 1 0)], [(0, pC s l (n + 1 + 1) c), (1, iC { y with kind := 6, ref := txV s l n }), (2, strC (y.args ++ [txV s l (n + 1)])), (3, strC y.frm)], 4⟩) ⟨⟨⟨rfl, rfl⟩, ⟨rfl, rfl⟩, trivial⟩, ⟨⟨rfl, veq0_d rfl, rfl, rfl, trivial⟩, ⟨rfl, rfl, rfl, rfl, rfl, rfl, rfl, rfl, rfl, trivial⟩, ⟨rfl, rfl, len1 _ _, fun j hj => app_str _ _ j hj⟩, ⟨rfl, rfl, rfl, fun _ _ => rfl⟩, trivial⟩, rfl⟩ ?_
      have h3 := name7_spec s l (n + 1 + 1) c hl (by omega)
      cases e3 : isV l (n + 1 + 1) 1 with
      | false =>
        rw [e3, if_neg (by simp)] at h3
        refine x.draw [0] [0, 1, 5] [2, 3, 4] [6, 7] [8, 9, 10, 11] rfl trivial mixedP (by kernel_rfl) RetO.quiet rfl trivial (fun C1 x1 => ?_)
        refine x1.die [0] rfl trivial rfl h3 ⟨⟨rfl, rfl⟩, trivial⟩ rfl ⟨⟨rfl, veq0_d rfl, rfl, rfl, trivial⟩, trivial⟩ ⟨⟨_, rfl⟩, rfl, ?_⟩
        simp only [act1V, argV, nmV, bnd, e1, e2, e3,  if_true, Bool.false_eq_true, if_false]
        exact ⟨rfl, rfl⟩
      | true =>
        rw [e3, if_pos rfl] at h3
        have l3 := isV_lt e3
        refine x.draw [0] [0, 1, 5] [2, 3, 4] [6, 7] [8, 9, 10, 11] rfl trivial mixedP (by kernel_rfl) RetO.quiet rfl trivial (fun C1 x1 => ?_)
        refine x1.call [0] rfl trivial rfl h3 rfl ⟨⟨rfl, rfl⟩, trivial⟩ ⟨⟨rfl, veq0_d rfl, rfl, rfl, trivial⟩, trivial⟩ ?_
        refine x1.back rfl trivial ?_
        refine x1.back rfl trivial ?_
        refine x.exit rfl (by simp only [AllP, big, List.length_append, List.length_cons, List.length_nil]; omega) ?_
        simp only [act1V, argV, nmV, bnd, e1, e2, e3,  if_true, Bool.false_eq_true, if_false]
        exact ⟨.inl rfl, trivial, ⟨⟨rfl, veq0_d rfl, rfl, rfl, trivial⟩, ⟨rfl, rfl, rfl, rfl, rfl, rfl, rfl, rfl, rfl, trivial⟩, ⟨rfl, rfl, len1 _ _, fun j hj => app_str _ _ j hj⟩, ⟨rfl, rfl, rfl, fun _ _ => rfl⟩, trivial⟩, rfl⟩

include hl hn hy in
theorem act2_spec : ProcO PG 85 2 [.ptr 0 0, .ptr 1 0] (HX s l n c y) (outI s l c (act2V s l n y)) := by
  have hll := hl.2.1
  refine ProcO.mk (cfgF 23 2) tysOK [0, 1, 2, 3] Tryd.func85 rfl (by kernel_rfl) rfl rfl (okI (by omega) _) ?_
  intro C x
  have h1 := name7_spec s l n c hl (by omega)
  cases e1 : isV l n 1 with
  | false =>
    rw [e1, if_neg (by simp)] at h1
    refine x.die [0] rfl trivial rfl h1 ⟨⟨rfl, rfl⟩, trivial⟩ rfl ⟨⟨rfl, veq0_d rfl, rfl, rfl, trivial⟩, trivial⟩ ?_
    simp only [act2V, argV, nmV, bnd, e1,  if_true, Bool.false_eq_true, if_false]
    exact ⟨rfl, rfl⟩
  | true =>
    rw [e1, if_pos rfl] at h1
    have l1 := isV_lt e1
    refine x.call [0] rfl trivial rfl h1 rfl ⟨⟨rfl, rfl⟩, trivial⟩ ⟨⟨rfl, veq0_d rfl, rfl, rfl, trivial⟩, trivial⟩ ?_
    have h2 := name7_spec s l (n + 1) c hl (by omega)
    cases e2 : isV l (n + 1) 1 with
    | false =>
      rw [e2, if_neg (by simp)] at h2
      refine x.draw [0] [0, 1, 5] [2, 3, 4] [6, 7] [8, 9, 10, 11] rfl trivial mixedP (by kernel_rfl) RetO.quiet rfl trivial (fun C1 x1 => ?_)
      refine x1.die [0] rfl trivial rfl h2 ⟨⟨rfl, rfl⟩, trivial⟩ rfl ⟨⟨rfl, veq0_d rfl, rfl, rfl, trivial⟩, trivial⟩ ⟨⟨_, rfl⟩, rfl, ?_⟩
      simp only [act2V, argV, nmV, bnd, e1, e2,  if_true, Bool.false_eq_true, if_false]
      exact ⟨rfl, rfl⟩
    | true =>
      rw [e2, if_pos rfl] at h2
      have l2 := isV_lt e2
      refine x.draw [0] [0, 1, 5] [2, 3, 4] [6, 7] [8, 9, 10, 11] rfl trivial mixedP (by kernel_rfl) RetO.quiet rfl trivial (fun C1 x1 => ?_)
      refine x1.call [0] rfl trivial rfl h2 rfl ⟨⟨rfl, rfl⟩, trivial⟩ ⟨⟨rfl, veq0_d rfl, rfl, rfl, trivial⟩, trivial⟩ ?_
      refine x1.back rfl trivial ?_
      refine x1.back rfl trivial ?_
      refine x.exit rfl (by simp only [AllP, big, List.length_append, List.length_cons, List.length_nil]; omega) ?_
      simp only [act2V, argV, nmV, bnd, e1, e2,  if_true, Bool.false_eq_true, if_false]
      exact ⟨.inl rfl, trivial, ⟨⟨rfl, veq0_d rfl, rfl, rfl, trivial⟩, ⟨rfl, rfl, rfl, rfl, rfl, rfl, rfl, rfl, rfl, trivial⟩, ⟨rfl, rfl, len1 _ _, fun j hj => app_str _ _ j hj⟩, ⟨rfl, rfl, rfl, fun _ _ => rfl⟩, trivial⟩, rfl⟩

include hl hn in
theorem act3_spec : ProcO PG 86 2 [.ptr 0 0, .ptr 1 0] (HX s l n c y) (outI s l c (act3V s l n y)) := by
  have hll := hl.2.1
  refine ProcO.mk (cfgF 12 2) tysOK [0, 1, 2, 3] Tryd.func86 rfl (by kernel_rfl) rfl rfl (okI (by omega) _) ?_
  intro C x
  have h1 := name7_spec s l n c hl (by omega)
  cases e1 : isV l n 1 with
  | false =>
    rw [e1, if_neg (by simp)] at h1
    refine x.die [0] rfl trivial rfl h1 ⟨⟨rfl, rfl⟩, trivial⟩ rfl ⟨⟨rfl, veq0_d rfl, rfl, rfl, trivial⟩, trivial⟩ ?_
    simp only [act3V, argV, nmV, bnd, e1,  if_true, Bool.false_eq_true, if_false]
    exact ⟨rfl, rfl⟩
  | true =>
    rw [e1, if_pos rfl] at h1
    have l1 := isV_lt e1
    refine x.call [0] rfl trivial rfl h1 rfl ⟨⟨rfl, rfl⟩, trivial⟩ ⟨⟨rfl, veq0_d rfl, rfl, rfl, trivial⟩, trivial⟩ ?_
    refine x.exit rfl trivial ?_
    simp only [act3V, argV, nmV, bnd, e1,  if_true, Bool.false_eq_true, if_false]
    exact ⟨.inl rfl, trivial, ⟨⟨rfl, veq0_d rfl, rfl, rfl, trivial⟩, ⟨rfl, rfl, rfl, rfl, rfl, rfl, rfl, rfl, rfl, trivial⟩, ⟨rfl, rfl, rfl, fun _ _ => rfl⟩, ⟨rfl, rfl, rfl, fun _ _ => rfl⟩, trivial⟩, rfl⟩

include hl hn hy in
theorem act4_spec : ProcO PG 87 2 [.ptr 0 0, .ptr 1 0] (HX s l n c y) (outI s l c (act4V s l n y)) := by
  have hll := hl.2.1
  refine ProcO.mk (cfgF 28 2) tysOK [0, 1, 2, 3] Tryd.func87 rfl (by kernel_rfl) rfl rfl (okI (by omega) _) ?_
  intro C x
  have h1 := name7_spec s l n c hl (by omega)
  cases e1 : isV l n 1 with
  | false =>
    rw [e1, if_neg (by simp)] at h1
    refine x.draw [0] [0, 1, 5] [2, 3, 4] [6, 7] [8, 9, 10, 11] rfl trivial mixedP (by kernel_rfl) RetO.quiet rfl trivial (fun C1 x1 => ?_)
    refine x1.die [0] rfl trivial rfl h1 ⟨⟨rfl, rfl⟩, trivial⟩ rfl ⟨⟨rfl, veq0_d rfl, rfl, rfl, trivial⟩, trivial⟩ ⟨⟨_, rfl⟩, rfl, ?_⟩
    simp only [act4V, argV, nmV, bnd, e1,  if_true, Bool.false_eq_true, if_false]
    exact ⟨rfl, rfl⟩
  | true =>
    rw [e1, if_pos rfl] at h1
    have l1 := isV_lt e1
    refine x.draw [0] [0, 1, 5] [2, 3, 4] [6, 7] [8, 9, 10, 11] rfl trivial mixedP (by kernel_rfl) RetO.quiet rfl trivial (fun C1 x1 => ?_)
    refine x1.call [0] rfl trivial rfl h1 rfl ⟨⟨rfl, rfl⟩, trivial⟩ ⟨⟨rfl, veq0_d rfl, rfl, rfl, trivial⟩, trivial⟩ ?_
    refine x1.back rfl trivial ?_
    refine x1.back rfl trivial ?_
    have h2 := name7_spec s l (n + 1) c hl (by omega)
    cases e2 : isV l (n + 1) 1 with
    | false =>
      rw [e2, if_neg (by simp)] at h2
      refine x.die [0] rfl (by simp only [AllP, big, List.length_append, List.length_cons, List.length_nil]; omega) rfl h2 ⟨⟨rfl, rfl⟩, trivial⟩ rfl ⟨⟨rfl, veq0_d rfl, rfl, rfl, trivial⟩, trivial⟩ ?_
      simp only [act4V, argV, nmV, bnd, e1, e2,  if_true, Bool.false_eq_true, if_false]
      exact ⟨rfl, rfl⟩
    | true =>
      rw [e2, if_pos rfl] at h2
      have l2 := isV_lt e2
      refine x.call [0] rfl (by simp only [AllP, big, List.length_append, List.length_cons, List.length_nil]; omega) rfl h2 rfl ⟨⟨rfl, rfl⟩, trivial⟩ ⟨⟨rfl, veq0_d rfl, rfl, rfl, trivial⟩, trivial⟩ ?_
      have h3 := name7_spec s l (n + 1 + 1) c hl (by omega)
      cases e3 : isV l (n + 1 + 1) 1 with
      | false =>
        rw [e3, if_neg (by simp)] at h3
        refine x.die [0] rfl trivial rfl h3 ⟨⟨rfl, rfl⟩, trivial⟩ rfl ⟨⟨rfl, veq0_d rfl, rfl, rfl, trivial⟩, trivial⟩ ?_
        simp only [act4V, argV, nmV, bnd, e1, e2, e3,  if_true, Bool.false_eq_true, if_false]
        exact ⟨rfl, rfl⟩
      | true =>
        rw [e3, if_pos rfl] at h3
        have l3 := isV_lt e3
        refine x.call [0] rfl trivial rfl h3 rfl ⟨⟨rfl, rfl⟩, trivial⟩ ⟨⟨rfl, veq0_d rfl, rfl, rfl, trivial⟩, trivial⟩ ?_
        refine x.exit rfl trivial ?_
        simp only [act4V, argV, nmV, bnd, e1, e2, e3,  if_true, Bool.false_eq_true, if_false]
        exact ⟨.inl rfl, trivial, ⟨⟨rfl, veq0_d rfl, rfl, rfl, trivial⟩, ⟨rfl, rfl, rfl, rfl, rfl, rfl, rfl, rfl, rfl, trivial⟩, ⟨rfl, rfl, len1 _ _, fun j hj => app_str _ _ j hj⟩, ⟨rfl, rfl, rfl, fun _ _ => rfl⟩, trivial⟩, rfl⟩

include hl hn hy in
theorem act5_spec : ProcO PG 88 2 [.ptr 0 0, .ptr 1 0] (HX s l n c y) (outI s l c (act5V s l n y)) := by
  have hll := hl.2.1
  refine ProcO.mk (cfgF 18 2) tysOK [0, 1, 2, 3] Tryd.func88 rfl (by kernel_rfl) rfl rfl (okI (by omega) _) ?_
  intro C x
  have h1 := name7_spec s l n c hl (by omega)
  cases e1 : isV l n 1 with
  | false =>
    rw [e1, if_neg (by simp)] at h1
    refine x.draw [0] [0, 1, 5] [2, 3, 4] [6, 7] [8, 9, 10, 11] rfl trivial mixedP (by kernel_rfl) RetO.quiet rfl trivial (fun C1 x1 => ?_)
    refine x1.die [0] rfl trivial rfl h1 ⟨⟨rfl, rfl⟩, trivial⟩ rfl ⟨⟨rfl, veq0_d rfl, rfl, rfl, trivial⟩, trivial⟩ ⟨⟨_, rfl⟩, rfl, ?_⟩
    simp only [act5V, argV, nmV, bnd, e1,  if_true, Bool.false_eq_true, if_false]
    exact ⟨rfl, rfl⟩
  | true =>
    rw [e1, if_pos rfl] at h1
    have l1 := isV_lt e1
    refine x.draw [0] [0, 1, 5] [2, 3, 4] [6, 7] [8, 9, 10, 11] rfl trivial mixedP (by kernel_rfl) RetO.quiet rfl trivial (fun C1 x1 => ?_)
    refine x1.call [0] rfl trivial rfl h1 rfl ⟨⟨rfl, rfl⟩, trivial⟩ ⟨⟨rfl, veq0_d rfl, rfl, rfl, trivial⟩, trivial⟩ ?_
    refine x1.back rfl trivial ?_
    refine x1.back rfl trivial ?_
    refine x.exit rfl (by simp only [AllP, big, List.length_append, List.length_cons, List.length_nil]; omega) ?_
    simp only [act5V, argV, nmV, bnd, e1,  if_true, Bool.false_eq_true, if_false]
    exact ⟨.inl rfl, trivial, ⟨⟨rfl, veq0_d rfl, rfl, rfl, trivial⟩, ⟨rfl, rfl, rfl, rfl, rfl, rfl, rfl, rfl, rfl, trivial⟩, ⟨rfl, rfl, len1 _ _, fun j hj => app_str _ _ j hj⟩, ⟨rfl, rfl, rfl, fun _ _ => rfl⟩, trivial⟩, rfl⟩
end
end Go.Proofs.YtikkppdihepmdaaDoor

/- What stands behind the words that give a value (but phi). -/
namespace Go.Proofs.YtikkppdihepmdaaDoor
open Go.Sx
set_option linter.unusedVariables false
set_option linter.unusedSimpArgs false
set_option maxRecDepth 100000

/-- A name that is the one argument. -/
def oneV7 (s : ByteArray) (l : List Tok) (n : Nat) (x : Ins) : Except (Int × Int) (Nat × Ins) := bnd (nmV s l n) fun n a => .ok (n, { x with args := [a] })
def refV (s : ByteArray) (l : List Tok) (n : Nat) (x : Ins) : Except (Int × Int) (Nat × Ins) := bnd (nmV s l n) fun n a => .ok (n, { x with ref := a })
def constV (s : ByteArray) (l : List Tok) (n : Nat) (x : Ins) : Except (Int × Int) (Nat × Ins) := if isV l n 3 = true then .ok (n + 1, { x with kind := 1, num := (numV (txV s l n)).1 }) else .error (atV s l n, 7)
def inputV (s : ByteArray) (l : List Tok) (n : Nat) (x : Ins) : Except (Int × Int) (Nat × Ins) := refV s l n { x with kind := 8 }
def callV (s : ByteArray) (l : List Tok) (n : Nat) (x : Ins) : Except (Int × Int) (Nat × Ins) := bnd (refV s l n { x with kind := 7 }) fun n x => bnd (namesV s l n) fun n o => .ok (n, { x with args := o })
def releaseV (s : ByteArray) (l : List Tok) (n : Nat) (x : Ins) : Except (Int × Int) (Nat × Ins) := bnd (oneV7 s l n { x with kind := 10 }) fun n x => refV s l n x
def cellV (k : Int) (s : ByteArray) (l : List Tok) (n : Nat) (x : Ins) : Except (Int × Int) (Nat × Ins) := bnd (refV s l n { x with kind := k }) fun n x => oneV7 s l n x

section
variable (s : ByteArray) (l : List Tok) (n c : Nat) (hl : Lies s l) (hn : n ≤ l.length) (y : Ins)
include hl hn in
theorem val2_spec : ProcO PG 95 2 [.ptr 0 0, .ptr 1 0] (HX s l n c y) (outI s l c (constV s l n y)) := by
  have hll := hl.2.1
  refine ProcO.mk (cfgF 12 2) tysOK [0, 1, 2, 3] Tryd.func95 rfl (by kernel_rfl) rfl rfl (okI (by omega) _) ?_
  intro C x
  have h1 := number7_spec s l n c hl (by omega)
  cases e1 : isV l n 3 with
  | false =>
    rw [e1, if_neg (by simp)] at h1
    refine x.die [0] rfl trivial rfl h1 ⟨⟨rfl, rfl⟩, trivial⟩ rfl ⟨⟨rfl, veq0_d rfl, rfl, rfl, trivial⟩, trivial⟩ ?_
    simp only [constV, refV, oneV7, nmV, bnd, e1,  if_true, Bool.false_eq_true, if_false]
    exact ⟨rfl, rfl⟩
  | true =>
    rw [e1, if_pos rfl] at h1
    have l1 := isV_lt e1
    refine x.call [0] rfl trivial rfl h1 rfl ⟨⟨rfl, rfl⟩, trivial⟩ ⟨⟨rfl, veq0_d rfl, rfl, rfl, trivial⟩, trivial⟩ ?_
    refine x.exit rfl trivial ?_
    simp only [constV, refV, oneV7, nmV, bnd, e1,  if_true, Bool.false_eq_true, if_false]
    exact ⟨.inl rfl, trivial, ⟨⟨rfl, veq0_d rfl, rfl, rfl, trivial⟩, ⟨rfl, rfl, rfl, rfl, rfl, rfl, rfl, rfl, rfl, trivial⟩, ⟨rfl, rfl, rfl, fun _ _ => rfl⟩, ⟨rfl, rfl, rfl, fun _ _ => rfl⟩, trivial⟩, rfl⟩

include hl hn in
theorem val3_spec : ProcO PG 96 2 [.ptr 0 0, .ptr 1 0] (HX s l n c y) (outI s l c (inputV s l n y)) := by
  have hll := hl.2.1
  refine ProcO.mk (cfgF 12 2) tysOK [0, 1, 2, 3] Tryd.func96 rfl (by kernel_rfl) rfl rfl (okI (by omega) _) ?_
  intro C x
  have h1 := name7_spec s l n c hl (by omega)
  cases e1 : isV l n 1 with
  | false =>
    rw [e1, if_neg (by simp)] at h1
    refine x.die [0] rfl trivial rfl h1 ⟨⟨rfl, rfl⟩, trivial⟩ rfl ⟨⟨rfl, veq0_d rfl, rfl, rfl, trivial⟩, trivial⟩ ?_
    simp only [inputV, refV, oneV7, nmV, bnd, e1,  if_true, Bool.false_eq_true, if_false]
    exact ⟨rfl, rfl⟩
  | true =>
    rw [e1, if_pos rfl] at h1
    have l1 := isV_lt e1
    refine x.call [0] rfl trivial rfl h1 rfl ⟨⟨rfl, rfl⟩, trivial⟩ ⟨⟨rfl, veq0_d rfl, rfl, rfl, trivial⟩, trivial⟩ ?_
    refine x.exit rfl trivial ?_
    simp only [inputV, refV, oneV7, nmV, bnd, e1,  if_true, Bool.false_eq_true, if_false]
    exact ⟨.inl rfl, trivial, ⟨⟨rfl, veq0_d rfl, rfl, rfl, trivial⟩, ⟨rfl, rfl, rfl, rfl, rfl, rfl, rfl, rfl, rfl, trivial⟩, ⟨rfl, rfl, rfl, fun _ _ => rfl⟩, ⟨rfl, rfl, rfl, fun _ _ => rfl⟩, trivial⟩, rfl⟩

include hl hn in
theorem val4_spec : ProcO PG 97 2 [.ptr 0 0, .ptr 1 0] (HX s l n c y) (outI s l c (callV s l n y)) := by
  have hll := hl.2.1
  refine ProcO.mk (cfgF 17 2) tysOK [0, 1, 4, 3] Tryd.func97 rfl (by kernel_rfl) rfl rfl (okI (by omega) _) ?_
  intro C x
  have h1 := name7_spec s l n c hl (by omega)
  cases e1 : isV l n 1 with
  | false =>
    rw [e1, if_neg (by simp)] at h1
    refine x.die [0] rfl trivial rfl h1 ⟨⟨rfl, rfl⟩, trivial⟩ rfl ⟨⟨rfl, veq0_d rfl, rfl, rfl, trivial⟩, trivial⟩ ?_
    simp only [callV, refV, oneV7, nmV, bnd, e1,  if_true, Bool.false_eq_true, if_false]
    exact ⟨rfl, rfl⟩
  | true =>
    rw [e1, if_pos rfl] at h1
    have l1 := isV_lt e1
    refine x.call [0] rfl trivial rfl h1 rfl ⟨⟨rfl, rfl⟩, trivial⟩ ⟨⟨rfl, veq0_d rfl, rfl, rfl, trivial⟩, trivial⟩ ?_
    have h2 := names7_spec s l (n + 1) c hl (by omega)
    obtain ⟨R, e2⟩ : ∃ R, namesV s l (n + 1) = R := ⟨_, rfl⟩
    rw [e2] at h2
    rcases R with ⟨a, b⟩ | ⟨n', o⟩
    · refine x.die [0] rfl trivial rfl h2 ⟨⟨rfl, rfl⟩, trivial⟩ rfl ⟨⟨rfl, veq0_d rfl, rfl, rfl, trivial⟩, trivial⟩ ?_
      simp only [callV, refV, oneV7, nmV, bnd, e1, e2,  if_true, Bool.false_eq_true, if_false]
      exact ⟨rfl, rfl⟩
    · refine x.call [0] rfl trivial rfl h2 rfl ⟨⟨rfl, rfl⟩, trivial⟩ ⟨⟨rfl, veq0_d rfl, rfl, rfl, trivial⟩, trivial⟩ ?_
      refine x.exit rfl trivial ?_
      simp only [callV, refV, oneV7, nmV, bnd, e1, e2,  if_true, Bool.false_eq_true, if_false]
      exact ⟨.inl rfl, trivial, ⟨⟨rfl, veq0_d rfl, rfl, rfl, trivial⟩, ⟨rfl, rfl, rfl, rfl, rfl, rfl, rfl, rfl, rfl, trivial⟩, ⟨rfl, rfl, rfl, fun _ _ => rfl⟩, ⟨rfl, rfl, rfl, fun _ _ => rfl⟩, trivial⟩, rfl⟩

include hl hn in
theorem val5_spec : ProcO PG 98 2 [.ptr 0 0, .ptr 1 0] (HX s l n c y) (outI s l c (releaseV s l n y)) := by
  have hll := hl.2.1
  refine ProcO.mk (cfgF 18 2) tysOK [0, 1, 4, 3] Tryd.func98 rfl (by kernel_rfl) rfl rfl (okI (by omega) _) ?_
  intro C x
  have h1 := name7_spec s l n c hl (by omega)
  cases e1 : isV l n 1 with
  | false =>
    rw [e1, if_neg (by simp)] at h1
    refine x.die [0] rfl trivial rfl h1 ⟨⟨rfl, rfl⟩, trivial⟩ rfl ⟨⟨rfl, veq0_d rfl, rfl, rfl, trivial⟩, trivial⟩ ?_
    simp only [releaseV, refV, oneV7, nmV, bnd, e1,  if_true, Bool.false_eq_true, if_false]
    exact ⟨rfl, rfl⟩
  | true =>
    rw [e1, if_pos rfl] at h1
    have l1 := isV_lt e1
    refine x.call [0] rfl trivial rfl h1 rfl ⟨⟨rfl, rfl⟩, trivial⟩ ⟨⟨rfl, veq0_d rfl, rfl, rfl, trivial⟩, trivial⟩ ?_
    have h2 := name7_spec s l (n + 1) c hl (by omega)
    cases e2 : isV l (n + 1) 1 with
    | false =>
      rw [e2, if_neg (by simp)] at h2
      refine x.die [0] rfl trivial rfl h2 ⟨⟨rfl, rfl⟩, trivial⟩ rfl ⟨⟨rfl, veq0_d rfl, rfl, rfl, trivial⟩, trivial⟩ ?_
      simp only [releaseV, refV, oneV7, nmV, bnd, e1, e2,  if_true, Bool.false_eq_true, if_false]
      exact ⟨rfl, rfl⟩
    | true =>
      rw [e2, if_pos rfl] at h2
      have l2 := isV_lt e2
      refine x.call [0] rfl trivial rfl h2 rfl ⟨⟨rfl, rfl⟩, trivial⟩ ⟨⟨rfl, veq0_d rfl, rfl, rfl, trivial⟩, trivial⟩ ?_
      refine x.exit rfl trivial ?_
      simp only [releaseV, refV, oneV7, nmV, bnd, e1, e2,  if_true, Bool.false_eq_true, if_false]
      exact ⟨.inl rfl, trivial, ⟨⟨rfl, veq0_d rfl, rfl, rfl, trivial⟩, ⟨rfl, rfl, rfl, rfl, rfl, rfl, rfl, rfl, rfl, trivial⟩, ⟨rfl, rfl, rfl, fun j hj => by rw [show j = 0 by omega]; rfl⟩, ⟨rfl, rfl, rfl, fun _ _ => rfl⟩, trivial⟩, rfl⟩

abbrev HK (s : ByteArray) (l : List Tok) (n c : Nat) (x : Ins) (k : Int) : List Ch := [pC s l n c, iC x, strC x.args, strC x.frm, .box [.d (.int .u8 k)]]
def outK (s : ByteArray) (l : List Tok) (c : Nat) (k : Int) : Except (Int × Int) (Nat × Ins) → Out
  | .ok (n, x) => .ret (.tup []) (HK s l n c x k)
  | .error (a, e) => dieO a e
include hl hn in
theorem cell_spec (k : Int) : ProcO PG 94 2 [.ptr 0 0, .ptr 1 0, .ptr 4 0] (HK s l n c y k) (outK s l c k (cellV k s l n y)) := by
  have hll := hl.2.1
  refine ProcO.mk (cfgF 20 2) tysOK [0, 1, 5, 3, 4] Tryd.func94 rfl (by kernel_rfl) rfl rfl (by rcases cellV k s l n y with ⟨a, e⟩ | ⟨n', x'⟩ <;> rfl) ?_
  intro C x
  have h1 := name7_spec s l n c hl (by omega)
  cases e1 : isV l n 1 with
  | false =>
    rw [e1, if_neg (by simp)] at h1
    refine x.die [0] rfl trivial rfl h1 ⟨⟨rfl, rfl⟩, trivial⟩ rfl ⟨⟨rfl, veq0_d rfl, rfl, rfl, trivial⟩, trivial⟩ ?_
    simp only [cellV, refV, oneV7, nmV, bnd, e1,  if_true, Bool.false_eq_true, if_false]
    exact ⟨rfl, rfl⟩
  | true =>
    rw [e1, if_pos rfl] at h1
    have l1 := isV_lt e1
    refine x.call [0] rfl trivial rfl h1 rfl ⟨⟨rfl, rfl⟩, trivial⟩ ⟨⟨rfl, veq0_d rfl, rfl, rfl, trivial⟩, trivial⟩ ?_
    have h2 := name7_spec s l (n + 1) c hl (by omega)
    cases e2 : isV l (n + 1) 1 with
    | false =>
      rw [e2, if_neg (by simp)] at h2
      refine x.die [0] rfl trivial rfl h2 ⟨⟨rfl, rfl⟩, trivial⟩ rfl ⟨⟨rfl, veq0_d rfl, rfl, rfl, trivial⟩, trivial⟩ ?_
      simp only [cellV, refV, oneV7, nmV, bnd, e1, e2,  if_true, Bool.false_eq_true, if_false]
      exact ⟨rfl, rfl⟩
    | true =>
      rw [e2, if_pos rfl] at h2
      have l2 := isV_lt e2
      refine x.call [0] rfl trivial rfl h2 rfl ⟨⟨rfl, rfl⟩, trivial⟩ ⟨⟨rfl, veq0_d rfl, rfl, rfl, trivial⟩, trivial⟩ ?_
      refine x.exit rfl trivial ?_
      simp only [cellV, refV, oneV7, nmV, bnd, e1, e2,  if_true, Bool.false_eq_true, if_false]
      exact ⟨.inl rfl, trivial, ⟨⟨rfl, veq0_d rfl, rfl, rfl, trivial⟩, ⟨rfl, rfl, rfl, rfl, rfl, rfl, rfl, rfl, rfl, trivial⟩, ⟨rfl, rfl, rfl, fun j hj => by rw [show j = 0 by omega]; rfl⟩, ⟨rfl, rfl, rfl, fun _ _ => rfl⟩, ⟨rfl, trivial⟩, trivial⟩, rfl⟩

end
end Go.Proofs.YtikkppdihepmdaaDoor

/- The tables of words. -/
namespace Go.Proofs.YtikkppdihepmdaaDoor
open Go.Sx
set_option linter.unusedVariables false
set_option linter.unusedSimpArgs false
set_option maxRecDepth 100000

def actsT : List (List UInt8 × V) := [([115, 116, 111, 114, 101], .fn 84 []), ([111, 117, 116, 112, 117, 116], .fn 85 []), ([106, 117, 109, 112], .fn 86 []), ([98, 114, 97, 110, 99, 104], .fn 87 []), ([114, 101, 116, 117, 114, 110], .fn 88 [])]
theorem acts_spec : Pure PG 76 [] (.own 0) [.tbl actsT] := by
  refine Proc.mk (cfg 3) tysOK [0] Tryd.func76 rfl (by kernel_rfl) rfl rfl rfl ?_
  intro C x
  refine x.exit rfl ?_ ?_
  · simp only [AllP, newKey]
    decide
  · exact ⟨.inr rfl, rfl, ⟨⟨rfl, rfl, rfl, rfl, rfl, rfl, rfl, rfl, rfl, rfl, trivial⟩, trivial⟩, rfl⟩

/-- values$1: a function with its kind. -/
theorem cellf_spec (k : Int) : Pure PG 93 [.d (.int .u8 k)] (.fn 94 [.ptr 0 0]) [.box [.d (.int .u8 k)]] := by
  refine Proc.mk (cfg 4) tysOK [0] Tryd.func93 rfl (by kernel_rfl) rfl rfl rfl ?_
  intro C x
  refine x.exit rfl trivial ?_
  exact ⟨.inr rfl, rfl, ⟨⟨rfl, trivial⟩, trivial⟩, rfl⟩

def valsT : List (List UInt8 × V) := [([99, 111, 110, 115, 116], .fn 95 []), ([108, 111, 97, 100], .fn 94 [.ptr 1 0]), ([119, 114, 97, 112], .fn 94 [.ptr 2 0]), ([105, 110, 112, 117, 116], .fn 96 []), ([99, 97, 108, 108], .fn 97 []), ([114, 101, 108, 101, 97, 115, 101], .fn 98 []), ([112, 104, 105], .fn 99 [])]
theorem values_spec : Pure PG 90 [] (.own 0) [.tbl valsT, .box [.d (.int .u8 4)], .box [.d (.int .u8 5)]] := by
  refine Proc.mk (cfg 8) tysOK [0, 1, 2] Tryd.func90 rfl (by kernel_rfl) rfl rfl rfl ?_
  intro C x
  refine x.call [] rfl trivial rfl (cellf_spec 4) rfl ⟨rfl, trivial⟩ trivial ?_
  refine x.call [] rfl ?_ rfl (cellf_spec 5) rfl ⟨rfl, trivial⟩ trivial ?_
  · simp only [AllP, List.map, newKey]
    decide
  refine x.exit rfl ?_ ?_
  · simp only [AllP, List.map, newKey]
    decide
  · exact ⟨.inr rfl, rfl, ⟨⟨rfl, rfl, rfl, rfl, rfl, rfl, rfl, rfl, rfl, rfl, rfl, rfl, rfl, rfl, trivial⟩, ⟨rfl, trivial⟩, ⟨rfl, trivial⟩, trivial⟩, rfl⟩
end Go.Proofs.YtikkppdihepmdaaDoor

/- The numbers of operators. -/
namespace Go.Proofs.YtikkppdihepmdaaDoor
open Go.Sx
set_option linter.unusedVariables false
set_option linter.unusedSimpArgs false
set_option maxRecDepth 100000

theorem names_at : GlobAt PG.env 3 13 (fun j => .str (opAt j)) :=
  ⟨_, .tail _ (.tail _ (.head _)), fun j hj => rfl⟩
/-- The number of an operator's name; 0: none. -/
def opF (b : List UInt8) : Nat → Nat → Nat
  | 0, _ => 0
  | k + 1, i => if 0 < i ∧ opNames.getD i [] = b then i else opF b k (i + 1)
def opV (s : ByteArray) : Nat := opF s.data.toList 13 0
structure OW (s : ByteArray) where
  i : Nat
  hi : i ≤ 13
  same : opF s.data.toList (13 - i) i = opV s
theorem op_spec (s : ByteArray) : Pure PG 89 [vs s] (.tup [.d (.int .u8 (opV s : Int)), vb (decide (opV s ≠ 0))]) [] := by
  refine Proc.mk (cfg 20) tysOK [] Tryd.func89 rfl (by kernel_rfl) rfl rfl rfl ?_
  intro C x
  refine x.loop (α := OW s) (fun y => ⟨[(0, vs s), (5, vi (y.i : Int))], [], 0⟩) (fun y => 13 - y.i) ⟨0, by omega, rfl⟩ rfl trivial ⟨⟨rfl, rfl, trivial⟩, trivial, rfl⟩ (fun y => ?_)
  obtain ⟨i, hi, same⟩ := y
  change Go C _ ⟨[(0, vs s), (5, vi (i : Int))], [], 0⟩ _
  refine x.cond rfl trivial (fun h => ?_) (fun h => ?_)
  · have h : (i : Int) < 13 := of_decide_eq_true h
    refine x.globG (fun j => .str (opAt j)) rfl trivial rfl names_at (fun _ => ⟨Int.natCast_nonneg _, h⟩) ?_
    have hk : 13 - i = (12 - i) + 1 := by omega
    rw [hk, opF] at same
    have e0 : (opAt i).data.toList = opNames.getD i [] := rfl
    refine x.cond rfl trivial (fun h2 => ?_) (fun h2 => ?_)
    · have h2 : (decide ((0 : Int) < (i : Int)) && decide ((opAt (i : Int).toNat).data.toList = s.data.toList)) = true := h2
      simp only [Bool.and_eq_true, decide_eq_true_eq, Int.toNat_natCast, e0] at h2
      rw [if_pos ⟨by omega, h2.2⟩] at same
      refine x.exit rfl trivial ?_
      rw [← same]
      refine ⟨.inr rfl, ⟨?_, ?_, trivial⟩, trivial, rfl⟩
      · refine veq0_d ?_
        rw [IntKind.wrap_u8]
        congr 1
        omega
      · show VEq0 (vb true) (vb (decide (i ≠ 0)))
        rw [decide_eq_true (by omega)]; rfl
    · have h2 : (decide ((0 : Int) < (i : Int)) && decide ((opAt (i : Int).toNat).data.toList = s.data.toList)) = false := h2
      rw [Int.toNat_natCast, e0] at h2
      rw [if_neg (fun hh => by
        rw [decide_eq_true (by omega : (0 : Int) < (i : Int)), decide_eq_true hh.2] at h2
        cases h2)] at same
      refine x.back rfl ?_ ⟨⟨i + 1, by omega, by rw [show 13 - (i + 1) = 12 - i by omega]; exact same⟩, by show 13 - (i + 1) < 13 - i; omega, ⟨rfl, ?_, trivial⟩, trivial, rfl⟩
      · simp only [AllP, inI64]; omega
      · show VEq0 (vi ((i : Int) + 1)) (vi ((i + 1 : Nat) : Int)); rw [Int.natCast_add]; rfl
  · have h : ¬ (i : Int) < 13 := of_decide_eq_false h
    have : i = 13 := by omega
    subst this
    refine x.exit rfl trivial ?_
    rw [← same]
    exact ⟨.inr rfl, ⟨rfl, rfl, trivial⟩, trivial, rfl⟩
end Go.Proofs.YtikkppdihepmdaaDoor

/- Arrays, as the program reads them. -/
namespace Go.Proofs.YtikkppdihepmdaaDoor
open Go.Sx
set_option linter.unusedVariables false
set_option linter.unusedSimpArgs false
set_option maxRecDepth 100000

structure Arr where
  name : ByteArray
  size : Int
  level : ByteArray
  at_ : Int
abbrev aV (x : Arr) : V := .agg [vs x.name, vi x.size, vs x.level, vi x.at_]
/-- An array, from the word array on. -/
def arrV (s : ByteArray) (l : List Tok) (n : Nat) : Except (Int × Int) (Nat × Arr) :=
  bnd (nmV s l (n + 1)) fun n1 name =>
    if isV l n1 3 = true then
      if (numV (txV s l n1)).1 < 1 ∨ 256 < (numV (txV s l n1)).1 then .error (atV s l n1, 12)
      else bnd (nmV s l (n1 + 1)) fun n2 lv => .ok (n2, ⟨name, (numV (txV s l n1)).1, lv, atV s l n⟩)
    else .error (atV s l n1, 7)
def arrO (s : ByteArray) (l : List Tok) (c : Nat) : Except (Int × Int) (Nat × Arr) → Out
  | .ok (n, x) => .ret (aV x) [pC s l n c]
  | .error (a, e) => dieO a e

section
variable (s : ByteArray) (l : List Tok) (n c : Nat) (hl : Lies s l) (hn : n < l.length)
include hl hn in
theorem array7_spec : ProcO PG 16 1 [.ptr 0 0] [pC s l n c] (arrO s l c (arrV s l n)) := by
  have hll := hl.2.1
  refine ProcO.mk (cfgF 42 1) tysOK [0] Tryd.func16 rfl (by kernel_rfl) rfl rfl (by rcases arrV s l n with ⟨a, e⟩ | ⟨n', x'⟩ <;> rfl) ?_
  intro C x
  refine x.call [0] rfl trivial rfl (at_spec s l n c (by omega)) rfl ⟨⟨rfl, rfl⟩, trivial⟩ ⟨⟨rfl, veq0_d rfl, rfl, rfl, trivial⟩, trivial⟩ ?_
  have ei : VEq0 (vi ((n : Int) + 1)) (vi ((n + 1 : Nat) : Int)) := by rw [Int.natCast_add]; rfl
  have h1 := name7_spec s l (n + 1) c hl (by omega)
  cases e1 : isV l (n + 1) 1 with
  | false =>
    rw [e1, if_neg (by simp)] at h1
    refine x.die [0] rfl (by simp only [AllP, inI64]; omega) rfl h1 ⟨⟨rfl, rfl⟩, trivial⟩ rfl ⟨⟨rfl, veq0_d rfl, ei, rfl, trivial⟩, trivial⟩ ?_
    simp only [arrV, nmV, bnd, e1, if_true, Bool.false_eq_true, if_false]
    exact ⟨rfl, rfl⟩
  | true =>
    rw [e1, if_pos rfl] at h1
    have l1 := isV_lt e1
    refine x.call [0] rfl (by simp only [AllP, inI64]; omega) rfl h1 rfl ⟨⟨rfl, rfl⟩, trivial⟩ ⟨⟨rfl, veq0_d rfl, ei, rfl, trivial⟩, trivial⟩ ?_
    refine x.call [0] rfl trivial rfl (is_spec s l (n + 1 + 1) c 3) rfl ⟨⟨rfl, rfl⟩, rfl, trivial⟩ ⟨⟨rfl, veq0_d rfl, rfl, rfl, trivial⟩, trivial⟩ ?_
    have h2 := number7_spec s l (n + 1 + 1) c hl (by omega)
    refine x.cond rfl trivial (fun e2 => ?_) (fun e2 => ?_)
    · have e2 : isV l (n + 1 + 1) 3 = true := e2
      have l2 := isV_lt e2
      rw [e2, if_pos rfl] at h2
      refine x.call [0] rfl trivial rfl (text_spec s l (n + 1 + 1) c hl (by omega) 0 (by omega)) rfl ⟨⟨rfl, rfl⟩, rfl, trivial⟩ ⟨⟨rfl, veq0_d rfl, rfl, rfl, trivial⟩, trivial⟩ ?_
      refine x.pure rfl trivial rfl (number_spec (txV s l (n + 1 + 1))) ⟨rfl, trivial⟩ ?_
      refine x.cond rfl trivial (fun e3 => ?_) (fun e3 => ?_)
      · have e3 : (decide ((numV (txV s l (n + 1 + 1))).1 < 1) || decide (256 < (numV (txV s l (n + 1 + 1))).1)) = true := e3
        simp only [Bool.or_eq_true, decide_eq_true_eq] at e3
        refine x.die [0] rfl trivial rfl (fail_spec s l (n + 1 + 1) c (by omega) 12) ⟨⟨rfl, rfl⟩, rfl, trivial⟩ rfl ⟨⟨rfl, veq0_d rfl, rfl, rfl, trivial⟩, trivial⟩ ?_
        simp only [arrV, nmV, bnd, e1, e2, if_true]
        rw [if_pos e3]
        exact ⟨rfl, rfl⟩
      · have e3 : (decide ((numV (txV s l (n + 1 + 1))).1 < 1) || decide (256 < (numV (txV s l (n + 1 + 1))).1)) = false := e3
        have e3' : ¬ ((numV (txV s l (n + 1 + 1))).1 < 1 ∨ 256 < (numV (txV s l (n + 1 + 1))).1) := by simpa using e3
        refine x.call [0] rfl trivial rfl h2 rfl ⟨⟨rfl, rfl⟩, trivial⟩ ⟨⟨rfl, veq0_d rfl, rfl, rfl, trivial⟩, trivial⟩ ?_
        have h4 := name7_spec s l (n + 1 + 1 + 1) c hl (by omega)
        cases e4 : isV l (n + 1 + 1 + 1) 1 with
        | false =>
          rw [e4, if_neg (by simp)] at h4
          refine x.die [0] rfl trivial rfl h4 ⟨⟨rfl, rfl⟩, trivial⟩ rfl ⟨⟨rfl, veq0_d rfl, rfl, rfl, trivial⟩, trivial⟩ ?_
          simp only [arrV, nmV, bnd, e1, e2, e4, if_true, Bool.false_eq_true, if_false]
          rw [if_neg e3']
          exact ⟨rfl, rfl⟩
        | true =>
          rw [e4, if_pos rfl] at h4
          refine x.call [0] rfl trivial rfl h4 rfl ⟨⟨rfl, rfl⟩, trivial⟩ ⟨⟨rfl, veq0_d rfl, rfl, rfl, trivial⟩, trivial⟩ ?_
          refine x.exit rfl trivial ?_
          simp only [arrV, nmV, bnd, e1, e2, e4, if_true]
          rw [if_neg e3']
          exact ⟨.inr rfl, ⟨rfl, rfl, rfl, rfl, trivial⟩, ⟨⟨rfl, veq0_d rfl, rfl, rfl, trivial⟩, trivial⟩, rfl⟩
    · have e2 : isV l (n + 1 + 1) 3 = false := e2
      rw [e2, if_neg (by simp)] at h2
      refine x.die [0] rfl trivial rfl h2 ⟨⟨rfl, rfl⟩, trivial⟩ rfl ⟨⟨rfl, veq0_d rfl, rfl, rfl, trivial⟩, trivial⟩ ?_
      simp only [arrV, nmV, bnd, e1, e2, if_true, Bool.false_eq_true, if_false]
      exact ⟨rfl, rfl⟩
end
end Go.Proofs.YtikkppdihepmdaaDoor
