/- Texts put together: T07K, T07L, T07M, T07N, T07O, T07P, T07T, T07U, T17G, T08P, T08Q, T08A, T08F. -/
import Derived.Test.YteeofakohenpoaaGreatDoorMB
import Derived.Test.YteeofakohenpoaaGreatDoorSxG
import Derived.Test.YteeofakohenpoaaGreatDoorMA
import Derived.Test.YteeofakohenpoaaGreatDoorSxE

/- What stands behind a =, as the program reads it. -/
namespace Go.Proofs.YteeofakohenpoaaGreatDoor
open Go.Sx
set_option linter.unusedVariables false
set_option linter.unusedSimpArgs false
set_option maxRecDepth 100000

def wordV (s : ByteArray) (l : List Tok) (n : Nat) (x : Ins) (w : List UInt8) : Except (Int × Int) (Nat × Ins) :=
  if w = [99, 111, 110, 115, 116] then constV s l (n + 1) x else
  if w = [108, 111, 97, 100] then cellV 4 s l (n + 1) x else
  if w = [119, 114, 97, 112] then cellV 5 s l (n + 1) x else
  if w = [105, 110, 112, 117, 116] then inputV s l (n + 1) x else
  if w = [99, 97, 108, 108] then callV s l (n + 1) x else
  if w = [114, 101, 108, 101, 97, 115, 101] then releaseV s l (n + 1) x else
  if w = [112, 104, 105] then phiV s l (n + 1) x else
  .error (atV s l n, 7)
def valueV (s : ByteArray) (l : List Tok) (n : Nat) (x : Ins) : Except (Int × Int) (Nat × Ins) :=
  if opV (txV s l n) ≠ 0 then bnd (argV s l (n + 1) { x with kind := 2, op := (opV (txV s l n) : Int) }) fun n x => argV s l n x
  else wordV s l n x (txV s l n).data.toList
section
variable (s : ByteArray) (l : List Tok) (n c : Nat) (hl : Lies s l) (hn : n ≤ l.length) (y : Ins) (hy : y.args.length ≤ 100) (hy2 : y.frm.length ≤ 100)
include hl hn hy hy2 in
theorem value7_spec : ProcO PG 91 2 [.ptr 0 0, .ptr 1 0] (HX s l n c y) (outI s l c (valueV s l n y)) := by
  have hll := hl.2.1
  have ei : VEq0 (vi ((n : Int) + 1)) (vi ((n + 1 : Nat) : Int)) := by rw [Int.natCast_add]; rfl
  refine ProcO.mk (cfgF 72 2) tysOK [0, 1, 2, 3] Tryz.func91 rfl (by kernel_rfl) rfl rfl (okI (by omega) _) ?_
  intro C x
  refine x.call [0] rfl trivial rfl (text_spec s l n c hl (by omega) 0 (by omega)) rfl ⟨⟨rfl, rfl⟩, rfl, trivial⟩ ⟨⟨rfl, veq0_d rfl, rfl, rfl, trivial⟩, trivial⟩ ?_
  obtain ⟨w, hw⟩ : ∃ w, txV s l n = w := ⟨_, rfl⟩
  rw [show n + 0 = n from rfl, hw]
  refine x.pure rfl trivial rfl (op_spec w) ⟨rfl, trivial⟩ ?_
  refine x.call [] rfl trivial rfl values_spec rfl trivial trivial ?_
  refine x.look rfl trivial rfl ⟨fun e => ?_, fun g0 => ?_⟩
  · have ho : opV w = 0 := by unfold opV; rw [e]; decide
    have lt : n < l.length := tx_lt (by rw [hw]; exact e)
    have hv : valueV s l n y = constV s l (n + 1) y := by
      rw [valueV, hw, if_neg (by rw [ho]; simp), e]; rfl
    refine x.cond rfl trivial (fun b => ?_) (fun _ => ?_)
    · have b : decide (opV w ≠ 0) = true := b
      rw [ho] at b; simp at b
    refine x.cond rfl trivial (fun _ => ?_) (fun b => by cases b)
    have h1 := val2_spec s l (n + 1) c hl (by omega) y
    rw [hv]
    obtain ⟨V, hV⟩ : ∃ V, constV s l (n + 1) y = V := ⟨_, rfl⟩
    rw [hV] at h1 ⊢
    rcases V with ⟨a, b⟩ | ⟨n', y'⟩
    · exact x.die [0, 1, 2, 3] rfl (by simp only [AllP, inI64]; omega) rfl h1 ⟨⟨rfl, rfl⟩, ⟨rfl, rfl⟩, trivial⟩ rfl ⟨⟨rfl, veq0_d rfl, ei, rfl, trivial⟩, ⟨rfl, rfl, rfl, rfl, rfl, rfl, rfl, rfl, rfl, trivial⟩, ⟨rfl, rfl, rfl, fun _ _ => rfl⟩, ⟨rfl, rfl, rfl, fun _ _ => rfl⟩, trivial⟩ ⟨rfl, rfl⟩
    · refine x.call [0, 1, 2, 3] rfl (by simp only [AllP, inI64]; omega) rfl h1 rfl ⟨⟨rfl, rfl⟩, ⟨rfl, rfl⟩, trivial⟩ ⟨⟨rfl, veq0_d rfl, ei, rfl, trivial⟩, ⟨rfl, rfl, rfl, rfl, rfl, rfl, rfl, rfl, rfl, trivial⟩, ⟨rfl, rfl, rfl, fun _ _ => rfl⟩, ⟨rfl, rfl, rfl, fun _ _ => rfl⟩, trivial⟩ ?_
      refine x.exit rfl trivial ?_
      exact ⟨.inl rfl, trivial, ⟨⟨rfl, veq0_d rfl, rfl, rfl, trivial⟩, ⟨rfl, rfl, rfl, rfl, rfl, rfl, rfl, rfl, rfl, trivial⟩, ⟨rfl, rfl, rfl, fun _ _ => rfl⟩, ⟨rfl, rfl, rfl, fun _ _ => rfl⟩, trivial⟩, rfl⟩
  refine ⟨fun e => ?_, fun g1 => ?_⟩
  · have ho : opV w = 0 := by unfold opV; rw [e]; decide
    have lt : n < l.length := tx_lt (by rw [hw]; exact e)
    have hv : valueV s l n y = cellV 4 s l (n + 1) y := by
      rw [valueV, hw, if_neg (by rw [ho]; simp), e]; rfl
    refine x.cond rfl trivial (fun b => ?_) (fun _ => ?_)
    · have b : decide (opV w ≠ 0) = true := b
      rw [ho] at b; simp at b
    refine x.cond rfl trivial (fun _ => ?_) (fun b => by cases b)
    have h1 := cell_spec s l (n + 1) c hl (by omega) y 4
    rw [hv]
    obtain ⟨V, hV⟩ : ∃ V, cellV 4 s l (n + 1) y = V := ⟨_, rfl⟩
    rw [hV] at h1 ⊢
    rcases V with ⟨a, b⟩ | ⟨n', y'⟩
    · exact x.die [0, 1, 2, 3, 5] rfl (by simp only [AllP, inI64]; omega) rfl h1 ⟨⟨rfl, rfl⟩, ⟨rfl, rfl⟩, ⟨rfl, rfl⟩, trivial⟩ rfl ⟨⟨rfl, veq0_d rfl, ei, rfl, trivial⟩, ⟨rfl, rfl, rfl, rfl, rfl, rfl, rfl, rfl, rfl, trivial⟩, ⟨rfl, rfl, rfl, fun _ _ => rfl⟩, ⟨rfl, rfl, rfl, fun _ _ => rfl⟩, ⟨rfl, trivial⟩, trivial⟩ ⟨rfl, rfl⟩
    · refine x.call [0, 1, 2, 3, 5] rfl (by simp only [AllP, inI64]; omega) rfl h1 rfl ⟨⟨rfl, rfl⟩, ⟨rfl, rfl⟩, ⟨rfl, rfl⟩, trivial⟩ ⟨⟨rfl, veq0_d rfl, ei, rfl, trivial⟩, ⟨rfl, rfl, rfl, rfl, rfl, rfl, rfl, rfl, rfl, trivial⟩, ⟨rfl, rfl, rfl, fun _ _ => rfl⟩, ⟨rfl, rfl, rfl, fun _ _ => rfl⟩, ⟨rfl, trivial⟩, trivial⟩ ?_
      refine x.exit rfl trivial ?_
      exact ⟨.inl rfl, trivial, ⟨⟨rfl, veq0_d rfl, rfl, rfl, trivial⟩, ⟨rfl, rfl, rfl, rfl, rfl, rfl, rfl, rfl, rfl, trivial⟩, ⟨rfl, rfl, rfl, fun _ _ => rfl⟩, ⟨rfl, rfl, rfl, fun _ _ => rfl⟩, trivial⟩, rfl⟩
  refine ⟨fun e => ?_, fun g2 => ?_⟩
  · have ho : opV w = 0 := by unfold opV; rw [e]; decide
    have lt : n < l.length := tx_lt (by rw [hw]; exact e)
    have hv : valueV s l n y = cellV 5 s l (n + 1) y := by
      rw [valueV, hw, if_neg (by rw [ho]; simp), e]; rfl
    refine x.cond rfl trivial (fun b => ?_) (fun _ => ?_)
    · have b : decide (opV w ≠ 0) = true := b
      rw [ho] at b; simp at b
    refine x.cond rfl trivial (fun _ => ?_) (fun b => by cases b)
    have h1 := cell_spec s l (n + 1) c hl (by omega) y 5
    rw [hv]
    obtain ⟨V, hV⟩ : ∃ V, cellV 5 s l (n + 1) y = V := ⟨_, rfl⟩
    rw [hV] at h1 ⊢
    rcases V with ⟨a, b⟩ | ⟨n', y'⟩
    · exact x.die [0, 1, 2, 3, 6] rfl (by simp only [AllP, inI64]; omega) rfl h1 ⟨⟨rfl, rfl⟩, ⟨rfl, rfl⟩, ⟨rfl, rfl⟩, trivial⟩ rfl ⟨⟨rfl, veq0_d rfl, ei, rfl, trivial⟩, ⟨rfl, rfl, rfl, rfl, rfl, rfl, rfl, rfl, rfl, trivial⟩, ⟨rfl, rfl, rfl, fun _ _ => rfl⟩, ⟨rfl, rfl, rfl, fun _ _ => rfl⟩, ⟨rfl, trivial⟩, trivial⟩ ⟨rfl, rfl⟩
    · refine x.call [0, 1, 2, 3, 6] rfl (by simp only [AllP, inI64]; omega) rfl h1 rfl ⟨⟨rfl, rfl⟩, ⟨rfl, rfl⟩, ⟨rfl, rfl⟩, trivial⟩ ⟨⟨rfl, veq0_d rfl, ei, rfl, trivial⟩, ⟨rfl, rfl, rfl, rfl, rfl, rfl, rfl, rfl, rfl, trivial⟩, ⟨rfl, rfl, rfl, fun _ _ => rfl⟩, ⟨rfl, rfl, rfl, fun _ _ => rfl⟩, ⟨rfl, trivial⟩, trivial⟩ ?_
      refine x.exit rfl trivial ?_
      exact ⟨.inl rfl, trivial, ⟨⟨rfl, veq0_d rfl, rfl, rfl, trivial⟩, ⟨rfl, rfl, rfl, rfl, rfl, rfl, rfl, rfl, rfl, trivial⟩, ⟨rfl, rfl, rfl, fun _ _ => rfl⟩, ⟨rfl, rfl, rfl, fun _ _ => rfl⟩, trivial⟩, rfl⟩
  refine ⟨fun e => ?_, fun g3 => ?_⟩
  · have ho : opV w = 0 := by unfold opV; rw [e]; decide
    have lt : n < l.length := tx_lt (by rw [hw]; exact e)
    have hv : valueV s l n y = inputV s l (n + 1) y := by
      rw [valueV, hw, if_neg (by rw [ho]; simp), e]; rfl
    refine x.cond rfl trivial (fun b => ?_) (fun _ => ?_)
    · have b : decide (opV w ≠ 0) = true := b
      rw [ho] at b; simp at b
    refine x.cond rfl trivial (fun _ => ?_) (fun b => by cases b)
    have h1 := val3_spec s l (n + 1) c hl (by omega) y
    rw [hv]
    obtain ⟨V, hV⟩ : ∃ V, inputV s l (n + 1) y = V := ⟨_, rfl⟩
    rw [hV] at h1 ⊢
    rcases V with ⟨a, b⟩ | ⟨n', y'⟩
    · exact x.die [0, 1, 2, 3] rfl (by simp only [AllP, inI64]; omega) rfl h1 ⟨⟨rfl, rfl⟩, ⟨rfl, rfl⟩, trivial⟩ rfl ⟨⟨rfl, veq0_d rfl, ei, rfl, trivial⟩, ⟨rfl, rfl, rfl, rfl, rfl, rfl, rfl, rfl, rfl, trivial⟩, ⟨rfl, rfl, rfl, fun _ _ => rfl⟩, ⟨rfl, rfl, rfl, fun _ _ => rfl⟩, trivial⟩ ⟨rfl, rfl⟩
    · refine x.call [0, 1, 2, 3] rfl (by simp only [AllP, inI64]; omega) rfl h1 rfl ⟨⟨rfl, rfl⟩, ⟨rfl, rfl⟩, trivial⟩ ⟨⟨rfl, veq0_d rfl, ei, rfl, trivial⟩, ⟨rfl, rfl, rfl, rfl, rfl, rfl, rfl, rfl, rfl, trivial⟩, ⟨rfl, rfl, rfl, fun _ _ => rfl⟩, ⟨rfl, rfl, rfl, fun _ _ => rfl⟩, trivial⟩ ?_
      refine x.exit rfl trivial ?_
      exact ⟨.inl rfl, trivial, ⟨⟨rfl, veq0_d rfl, rfl, rfl, trivial⟩, ⟨rfl, rfl, rfl, rfl, rfl, rfl, rfl, rfl, rfl, trivial⟩, ⟨rfl, rfl, rfl, fun _ _ => rfl⟩, ⟨rfl, rfl, rfl, fun _ _ => rfl⟩, trivial⟩, rfl⟩
  refine ⟨fun e => ?_, fun g4 => ?_⟩
  · have ho : opV w = 0 := by unfold opV; rw [e]; decide
    have lt : n < l.length := tx_lt (by rw [hw]; exact e)
    have hv : valueV s l n y = callV s l (n + 1) y := by
      rw [valueV, hw, if_neg (by rw [ho]; simp), e]; rfl
    refine x.cond rfl trivial (fun b => ?_) (fun _ => ?_)
    · have b : decide (opV w ≠ 0) = true := b
      rw [ho] at b; simp at b
    refine x.cond rfl trivial (fun _ => ?_) (fun b => by cases b)
    have h1 := val4_spec s l (n + 1) c hl (by omega) y
    rw [hv]
    obtain ⟨V, hV⟩ : ∃ V, callV s l (n + 1) y = V := ⟨_, rfl⟩
    rw [hV] at h1 ⊢
    rcases V with ⟨a, b⟩ | ⟨n', y'⟩
    · exact x.die [0, 1, 2, 3] rfl (by simp only [AllP, inI64]; omega) rfl h1 ⟨⟨rfl, rfl⟩, ⟨rfl, rfl⟩, trivial⟩ rfl ⟨⟨rfl, veq0_d rfl, ei, rfl, trivial⟩, ⟨rfl, rfl, rfl, rfl, rfl, rfl, rfl, rfl, rfl, trivial⟩, ⟨rfl, rfl, rfl, fun _ _ => rfl⟩, ⟨rfl, rfl, rfl, fun _ _ => rfl⟩, trivial⟩ ⟨rfl, rfl⟩
    · refine x.call [0, 1, 2, 3] rfl (by simp only [AllP, inI64]; omega) rfl h1 rfl ⟨⟨rfl, rfl⟩, ⟨rfl, rfl⟩, trivial⟩ ⟨⟨rfl, veq0_d rfl, ei, rfl, trivial⟩, ⟨rfl, rfl, rfl, rfl, rfl, rfl, rfl, rfl, rfl, trivial⟩, ⟨rfl, rfl, rfl, fun _ _ => rfl⟩, ⟨rfl, rfl, rfl, fun _ _ => rfl⟩, trivial⟩ ?_
      refine x.exit rfl trivial ?_
      exact ⟨.inl rfl, trivial, ⟨⟨rfl, veq0_d rfl, rfl, rfl, trivial⟩, ⟨rfl, rfl, rfl, rfl, rfl, rfl, rfl, rfl, rfl, trivial⟩, ⟨rfl, rfl, rfl, fun _ _ => rfl⟩, ⟨rfl, rfl, rfl, fun _ _ => rfl⟩, trivial⟩, rfl⟩
  refine ⟨fun e => ?_, fun g5 => ?_⟩
  · have ho : opV w = 0 := by unfold opV; rw [e]; decide
    have lt : n < l.length := tx_lt (by rw [hw]; exact e)
    have hv : valueV s l n y = releaseV s l (n + 1) y := by
      rw [valueV, hw, if_neg (by rw [ho]; simp), e]; rfl
    refine x.cond rfl trivial (fun b => ?_) (fun _ => ?_)
    · have b : decide (opV w ≠ 0) = true := b
      rw [ho] at b; simp at b
    refine x.cond rfl trivial (fun _ => ?_) (fun b => by cases b)
    have h1 := val5_spec s l (n + 1) c hl (by omega) y
    rw [hv]
    obtain ⟨V, hV⟩ : ∃ V, releaseV s l (n + 1) y = V := ⟨_, rfl⟩
    rw [hV] at h1 ⊢
    rcases V with ⟨a, b⟩ | ⟨n', y'⟩
    · exact x.die [0, 1, 2, 3] rfl (by simp only [AllP, inI64]; omega) rfl h1 ⟨⟨rfl, rfl⟩, ⟨rfl, rfl⟩, trivial⟩ rfl ⟨⟨rfl, veq0_d rfl, ei, rfl, trivial⟩, ⟨rfl, rfl, rfl, rfl, rfl, rfl, rfl, rfl, rfl, trivial⟩, ⟨rfl, rfl, rfl, fun _ _ => rfl⟩, ⟨rfl, rfl, rfl, fun _ _ => rfl⟩, trivial⟩ ⟨rfl, rfl⟩
    · refine x.call [0, 1, 2, 3] rfl (by simp only [AllP, inI64]; omega) rfl h1 rfl ⟨⟨rfl, rfl⟩, ⟨rfl, rfl⟩, trivial⟩ ⟨⟨rfl, veq0_d rfl, ei, rfl, trivial⟩, ⟨rfl, rfl, rfl, rfl, rfl, rfl, rfl, rfl, rfl, trivial⟩, ⟨rfl, rfl, rfl, fun _ _ => rfl⟩, ⟨rfl, rfl, rfl, fun _ _ => rfl⟩, trivial⟩ ?_
      refine x.exit rfl trivial ?_
      exact ⟨.inl rfl, trivial, ⟨⟨rfl, veq0_d rfl, rfl, rfl, trivial⟩, ⟨rfl, rfl, rfl, rfl, rfl, rfl, rfl, rfl, rfl, trivial⟩, ⟨rfl, rfl, rfl, fun _ _ => rfl⟩, ⟨rfl, rfl, rfl, fun _ _ => rfl⟩, trivial⟩, rfl⟩
  refine ⟨fun e => ?_, fun g6 => ?_⟩
  · have ho : opV w = 0 := by unfold opV; rw [e]; decide
    have lt : n < l.length := tx_lt (by rw [hw]; exact e)
    have hv : valueV s l n y = phiV s l (n + 1) y := by
      rw [valueV, hw, if_neg (by rw [ho]; simp), e]; rfl
    refine x.cond rfl trivial (fun b => ?_) (fun _ => ?_)
    · have b : decide (opV w ≠ 0) = true := b
      rw [ho] at b; simp at b
    refine x.cond rfl trivial (fun _ => ?_) (fun b => by cases b)
    have h1 := val6_spec s l (n + 1) c hl (by omega) y hy hy2
    rw [hv]
    obtain ⟨V, hV⟩ : ∃ V, phiV s l (n + 1) y = V := ⟨_, rfl⟩
    rw [hV] at h1 ⊢
    rcases V with ⟨a, b⟩ | ⟨n', y'⟩
    · exact x.die [0, 1, 2, 3] rfl (by simp only [AllP, inI64]; omega) rfl h1 ⟨⟨rfl, rfl⟩, ⟨rfl, rfl⟩, trivial⟩ rfl ⟨⟨rfl, veq0_d rfl, ei, rfl, trivial⟩, ⟨rfl, rfl, rfl, rfl, rfl, rfl, rfl, rfl, rfl, trivial⟩, ⟨rfl, rfl, rfl, fun _ _ => rfl⟩, ⟨rfl, rfl, rfl, fun _ _ => rfl⟩, trivial⟩ ⟨rfl, rfl⟩
    · refine x.call [0, 1, 2, 3] rfl (by simp only [AllP, inI64]; omega) rfl h1 rfl ⟨⟨rfl, rfl⟩, ⟨rfl, rfl⟩, trivial⟩ ⟨⟨rfl, veq0_d rfl, ei, rfl, trivial⟩, ⟨rfl, rfl, rfl, rfl, rfl, rfl, rfl, rfl, rfl, trivial⟩, ⟨rfl, rfl, rfl, fun _ _ => rfl⟩, ⟨rfl, rfl, rfl, fun _ _ => rfl⟩, trivial⟩ ?_
      refine x.exit rfl trivial ?_
      exact ⟨.inl rfl, trivial, ⟨⟨rfl, veq0_d rfl, rfl, rfl, trivial⟩, ⟨rfl, rfl, rfl, rfl, rfl, rfl, rfl, rfl, rfl, trivial⟩, ⟨rfl, rfl, rfl, fun _ _ => rfl⟩, ⟨rfl, rfl, rfl, fun _ _ => rfl⟩, trivial⟩, rfl⟩
  have hd : wordV s l n y w.data.toList = .error (atV s l n, 7) := by
    rw [wordV, if_neg g0, if_neg g1, if_neg g2, if_neg g3, if_neg g4, if_neg g5, if_neg g6]
  refine x.cond rfl trivial (fun b => ?_) (fun b => ?_)
  · have b : decide (opV w ≠ 0) = true := b
    have b : opV w ≠ 0 := by simpa using b
    have lt : n < l.length := by
      refine Classical.byContradiction fun hh => b ?_
      rw [← hw, txV, if_neg hh]; decide
    have hv : valueV s l n y = bnd (argV s l (n + 1) { y with kind := 2, op := (opV w : Int) }) fun n x => argV s l n x := by
      rw [valueV, hw, if_pos b]
    have h1 := name7_spec s l (n + 1) c hl (by omega)
    cases e1 : isV l (n + 1) 1 with
    | false =>
      rw [e1, if_neg (by simp)] at h1
      refine x.draw [0] [0, 1, 5] [2, 3, 4] [6, 7] [8, 9, 10, 11] rfl (by simp only [AllP, inI64]; omega) mixedP (by kernel_rfl) RetO.quiet rfl trivial (fun C1 x1 => ?_)
      refine x1.die [0] rfl trivial rfl h1 ⟨⟨rfl, rfl⟩, trivial⟩ rfl ⟨⟨rfl, veq0_d rfl, ei, rfl, trivial⟩, trivial⟩ ⟨⟨_, rfl⟩, rfl, ?_⟩
      rw [hv]
      simp only [argV, nmV, bnd, e1, if_true, Bool.false_eq_true, if_false]
      exact ⟨rfl, rfl⟩
    | true =>
      rw [e1, if_pos rfl] at h1
      have l1 := isV_lt e1
      refine x.draw [0] [0, 1, 5] [2, 3, 4] [6, 7] [8, 9, 10, 11] rfl (by simp only [AllP, inI64]; omega) mixedP (by kernel_rfl) RetO.quiet rfl trivial (fun C1 x1 => ?_)
      refine x1.call [0] rfl trivial rfl h1 rfl ⟨⟨rfl, rfl⟩, trivial⟩ ⟨⟨rfl, veq0_d rfl, ei, rfl, trivial⟩, trivial⟩ ?_
      refine x1.back rfl trivial ?_
      refine x1.back rfl trivial ?_
      refine x.code rfl (by simp only [AllP, big, List.length_append, List.length_cons, List.length_nil]; omega) ?_
      refine x.le (s' := ⟨[(0, .ptr 0 0), (1, .ptr 1 0)], [(0, pC s l (n + 1 + 1) c), (1, iC { y with kind := 2, op := (opV w : Int) }), (2, strC (y.args ++ [txV s l (n + 1)])), (3, strC y.frm)], 4⟩) ⟨⟨⟨rfl, rfl⟩, ⟨rfl, rfl⟩, trivial⟩, ⟨⟨rfl, veq0_d rfl, rfl, rfl, trivial⟩, ⟨rfl, rfl, rfl, rfl, rfl, rfl, rfl, rfl, rfl, trivial⟩, ⟨rfl, rfl, len1 _ _, fun j hj => app_str _ _ j hj⟩, ⟨rfl, rfl, rfl, fun _ _ => rfl⟩, trivial⟩, rfl⟩ ?_
      have h2 := name7_spec s l (n + 1 + 1) c hl (by omega)
      cases e2 : isV l (n + 1 + 1) 1 with
      | false =>
        rw [e2, if_neg (by simp)] at h2
        refine x.draw [0] [0, 1, 5] [2, 3, 4] [6, 7] [8, 9, 10, 11] rfl trivial mixedP (by kernel_rfl) RetO.quiet rfl trivial (fun C1 x1 => ?_)
        refine x1.die [0] rfl trivial rfl h2 ⟨⟨rfl, rfl⟩, trivial⟩ rfl ⟨⟨rfl, veq0_d rfl, rfl, rfl, trivial⟩, trivial⟩ ⟨⟨_, rfl⟩, rfl, ?_⟩
        rw [hv]
        simp only [argV, nmV, bnd, e1, e2, if_true, Bool.false_eq_true, if_false]
        exact ⟨rfl, rfl⟩
      | true =>
        rw [e2, if_pos rfl] at h2
        refine x.draw [0] [0, 1, 5] [2, 3, 4] [6, 7] [8, 9, 10, 11] rfl trivial mixedP (by kernel_rfl) RetO.quiet rfl trivial (fun C1 x1 => ?_)
        refine x1.call [0] rfl trivial rfl h2 rfl ⟨⟨rfl, rfl⟩, trivial⟩ ⟨⟨rfl, veq0_d rfl, rfl, rfl, trivial⟩, trivial⟩ ?_
        refine x1.back rfl trivial ?_
        refine x1.back rfl trivial ?_
        refine x.exit rfl (by simp only [AllP, big, List.length_append, List.length_cons, List.length_nil]; omega) ?_
        rw [hv]
        simp only [argV, nmV, bnd, e1, e2, if_true]
        exact ⟨.inl rfl, trivial, ⟨⟨rfl, veq0_d rfl, rfl, rfl, trivial⟩, ⟨rfl, rfl, rfl, rfl, rfl, rfl, rfl, rfl, rfl, trivial⟩, ⟨rfl, rfl, len1 _ _, fun j hj => app_str _ _ j hj⟩, ⟨rfl, rfl, rfl, fun _ _ => rfl⟩, trivial⟩, rfl⟩
  · have b : decide (opV w ≠ 0) = false := b
    have b : opV w = 0 := by simpa using b
    refine x.cond rfl trivial (fun b => by cases b) (fun _ => ?_)
    refine x.die [0] rfl trivial rfl (fail_spec s l n c (by omega) 7) ⟨⟨rfl, rfl⟩, rfl, trivial⟩ rfl ⟨⟨rfl, veq0_d rfl, rfl, rfl, trivial⟩, trivial⟩ ?_
    rw [valueV, hw, if_neg (by rw [b]; simp), hd]
    exact ⟨rfl, rfl⟩
end
end Go.Proofs.YteeofakohenpoaaGreatDoor

/- An instruction, as the program reads it. -/
namespace Go.Proofs.YteeofakohenpoaaGreatDoor
open Go.Sx
set_option linter.unusedVariables false
set_option linter.unusedSimpArgs false
set_option maxRecDepth 100000

def ins0 (at_ : Int) : Ins := ⟨0, 0, .empty, .empty, .empty, [], [], 0, at_⟩
abbrev xV (x : Ins) : V := .agg [.d (.int .u8 x.kind), .d (.int .u8 x.op), vs x.dst, vs x.ref, vs x.alt, .own 1, .own 2, vi x.num, vi x.at_]
def instrO (s : ByteArray) (l : List Tok) (c : Nat) : Except (Int × Int) (Nat × Ins) → Out
  | .ok (n, x) => .ret (xV x) [pC s l n (c + 1), strC x.args, strC x.frm]
  | .error (a, e) => dieO a e
def actV (s : ByteArray) (l : List Tok) (w : List UInt8) : Option (Nat → Ins → Except (Int × Int) (Nat × Ins)) :=
  if w = [115, 116, 111, 114, 101] then some (act1V s l) else
  if w = [111, 117, 116, 112, 117, 116] then some (act2V s l) else
  if w = [106, 117, 109, 112] then some (act3V s l) else
  if w = [98, 114, 97, 110, 99, 104] then some (act4V s l) else
  if w = [114, 101, 116, 117, 114, 110] then some (act5V s l) else
  none
def instrV (s : ByteArray) (l : List Tok) (n c : Nat) : Except (Int × Int) (Nat × Ins) :=
  if (isV l n 1 = false ∧ (actV s l (txV s l n).data.toList).isNone = true) then .error (atV s l n, 7)
  else if isV l n 1 = true ∧ ¬ (txV s l (n + 1)).data.toList = [61] then .error (atV s l (n + 1), 7)
  else if 4096 ≤ c then .error (atV s l n, 3)
  else match actV s l (txV s l n).data.toList with
    | some f => f (n + 1) (ins0 (atV s l n))
    | none => bnd (nmV s l n) fun n1 d => bnd (needV s l n1 61) fun n2 _ => valueV s l n2 { ins0 (atV s l n) with dst := d }
section
variable (s : ByteArray) (l : List Tok) (n c : Nat) (hl : Lies s l) (hn : n ≤ l.length) (hc : c ≤ 1000000)
set_option maxHeartbeats 2000000 in
include hl hn hc in
theorem instr7_spec : ProcO PG 86 1 [.ptr 0 0] [pC s l n c] (instrO s l c (instrV s l n c)) := by
  have hll := hl.2.1
  have ei : VEq0 (vi ((n : Int) + 1)) (vi ((n + 1 : Nat) : Int)) := by rw [Int.natCast_add]; rfl
  have ej : VEq0 (vi ((c : Int) + 1)) (vi ((c + 1 : Nat) : Int)) := by rw [Int.natCast_add]; rfl
  refine ProcO.mk (cfgF 71 1) tysOK [0, 3, 4] Tryz.func86 rfl (by kernel_rfl) rfl rfl (by rcases instrV s l n c with ⟨a, e⟩ | ⟨n', o⟩ <;> rfl) ?_
  intro C x
  refine x.call [0] rfl trivial rfl (at_spec s l n c (by omega)) rfl ⟨⟨rfl, rfl⟩, trivial⟩ ⟨⟨rfl, veq0_d rfl, rfl, rfl, trivial⟩, trivial⟩ ?_
  refine x.op rfl trivial ?_
  refine Go.ownB 2 5 9 1 (fun j => [D.str (([] : List ByteArray).getD j .empty)]) rfl rfl ?_
  refine Go.ownB 2 6 9 1 (fun j => [D.str (([] : List ByteArray).getD j .empty)]) rfl rfl ?_
  refine x.call [] rfl trivial rfl acts_spec rfl trivial trivial ?_
  refine x.call [0] rfl trivial rfl (text_spec s l n c hl (by omega) 0 (by omega)) rfl ⟨⟨rfl, rfl⟩, rfl, trivial⟩ ⟨⟨rfl, veq0_d rfl, rfl, rfl, trivial⟩, trivial⟩ ?_
  obtain ⟨w, hw⟩ : ∃ w, txV s l n = w := ⟨_, rfl⟩
  rw [show n + 0 = n from rfl, hw]
  have hroom := room_spec s l n c (by omega) (c : Int) 4096
  have hfail1 := fail_spec s l (n + 1) c (by omega) 7
  refine x.look rfl trivial rfl ⟨fun e => ?_, fun g0 => ?_⟩
  · have lt : n < l.length := tx_lt (by rw [hw]; exact e)
    have hact : actV s l w.data.toList = some (act1V s l) := by rw [e]; rfl
    refine x.call [0] rfl trivial rfl (is_spec s l n c 1) rfl ⟨⟨rfl, rfl⟩, rfl, trivial⟩ ⟨⟨rfl, veq0_d rfl, rfl, rfl, trivial⟩, trivial⟩ ?_
    refine x.cond rfl trivial (fun b => ?_) (fun b => ?_)
    · have b : ((!isV l n 1) && false) = true := b
      simp at b
    have n1 : ¬ (isV l n 1 = false ∧ (actV s l w.data.toList).isNone = true) := by rw [hact]; simp
    refine x.call [0] rfl trivial rfl (is_spec s l n c 1) rfl ⟨⟨rfl, rfl⟩, rfl, trivial⟩ ⟨⟨rfl, veq0_d rfl, rfl, rfl, trivial⟩, trivial⟩ ?_
    refine x.callG [0] rfl trivial rfl (fun _ => text_spec s l n c hl (by omega) 1 (by omega)) rfl ⟨⟨rfl, rfl⟩, rfl, trivial⟩ ⟨⟨rfl, veq0_d rfl, rfl, rfl, trivial⟩, trivial⟩ ⟨⟨rfl, veq0_d rfl, rfl, rfl, trivial⟩, ⟨rfl, rfl, rfl, rfl, rfl, rfl, rfl, rfl, rfl, rfl, trivial⟩, ⟨rfl, rfl, rfl, rfl, rfl, rfl, rfl, rfl, rfl, trivial⟩, ⟨rfl, rfl, rfl, fun _ _ => rfl⟩, ⟨rfl, rfl, rfl, fun _ _ => rfl⟩, ⟨rfl, rfl, rfl, rfl, rfl, trivial, trivial, rfl, rfl, trivial⟩, trivial⟩ ?_
    refine x.cond rfl trivial (fun b2 => ?_) (fun b2 => ?_)
    · have b2 : (isV l n 1 && !decide ((txV s l (n + 1)).data.toList = [61])) = true := b2
      have b2 : isV l n 1 = true ∧ ¬ (txV s l (n + 1)).data.toList = [61] := by simpa using b2
      refine x.die [0] rfl (by simp only [AllP, inI64]; omega) rfl hfail1 ⟨⟨rfl, rfl⟩, rfl, trivial⟩ rfl ⟨⟨rfl, veq0_d rfl, ei, rfl, trivial⟩, trivial⟩ ?_
      rw [instrV, hw, if_neg n1, if_pos b2]
      exact ⟨rfl, rfl⟩
    have b2 : (isV l n 1 && !decide ((txV s l (n + 1)).data.toList = [61])) = false := b2
    have n2 : ¬ (isV l n 1 = true ∧ ¬ (txV s l (n + 1)).data.toList = [61]) := fun hh => by rw [hh.1, decide_eq_false hh.2] at b2; cases b2
    by_cases h3 : 4096 ≤ c
    · rw [if_pos (by omega)] at hroom
      refine x.die [0] rfl trivial rfl hroom ⟨⟨rfl, rfl⟩, rfl, rfl, trivial⟩ rfl ⟨⟨rfl, veq0_d rfl, rfl, rfl, trivial⟩, trivial⟩ ?_
      rw [instrV, hw, if_neg n1, if_neg n2, if_pos h3]
      exact ⟨rfl, rfl⟩
    rw [if_neg (by omega)] at hroom
    refine x.call [0] rfl trivial rfl hroom rfl ⟨⟨rfl, rfl⟩, rfl, rfl, trivial⟩ ⟨⟨rfl, veq0_d rfl, rfl, rfl, trivial⟩, trivial⟩ ?_
    have hv : instrV s l n c = act1V s l (n + 1) (ins0 (atV s l n)) := by rw [instrV, hw, if_neg n1, if_neg n2, if_neg h3, hact]
    rw [hv]
    have h1 := act1_spec s l (n + 1) (c + 1) hl (by omega) (ins0 (atV s l n)) (Nat.zero_le _)
    obtain ⟨V, hV⟩ : ∃ V, act1V s l (n + 1) (ins0 (atV s l n)) = V := ⟨_, rfl⟩
    rw [hV] at h1 ⊢
    refine x.cond rfl (by simp only [AllP, inI64]; omega) (fun _ => ?_) (fun b => by cases b)
    rcases V with ⟨a, b⟩ | ⟨n', y'⟩
    · exact x.die [0, 2, 3, 4] rfl (by simp only [AllP, inI64]; omega) rfl h1 ⟨⟨rfl, rfl⟩, ⟨rfl, rfl⟩, trivial⟩ rfl ⟨⟨rfl, veq0_d rfl, ei, ej, trivial⟩, ⟨rfl, rfl, rfl, rfl, rfl, rfl, rfl, rfl, rfl, trivial⟩, ⟨rfl, rfl, rfl, fun j hj => absurd hj (Nat.not_lt_zero _)⟩, ⟨rfl, rfl, rfl, fun j hj => absurd hj (Nat.not_lt_zero _)⟩, trivial⟩ ⟨rfl, rfl⟩
    · refine x.call [0, 2, 3, 4] rfl (by simp only [AllP, inI64]; omega) rfl h1 rfl ⟨⟨rfl, rfl⟩, ⟨rfl, rfl⟩, trivial⟩ ⟨⟨rfl, veq0_d rfl, ei, ej, trivial⟩, ⟨rfl, rfl, rfl, rfl, rfl, rfl, rfl, rfl, rfl, trivial⟩, ⟨rfl, rfl, rfl, fun j hj => absurd hj (Nat.not_lt_zero _)⟩, ⟨rfl, rfl, rfl, fun j hj => absurd hj (Nat.not_lt_zero _)⟩, trivial⟩ ?_
      refine x.exit rfl trivial ?_
      exact ⟨.inr rfl, ⟨rfl, rfl, rfl, rfl, rfl, rfl, rfl, rfl, rfl, trivial⟩, ⟨⟨rfl, veq0_d rfl, rfl, rfl, trivial⟩, ⟨rfl, rfl, rfl, fun _ _ => rfl⟩, ⟨rfl, rfl, rfl, fun _ _ => rfl⟩, trivial⟩, rfl⟩
  refine ⟨fun e => ?_, fun g1 => ?_⟩
  · have lt : n < l.length := tx_lt (by rw [hw]; exact e)
    have hact : actV s l w.data.toList = some (act2V s l) := by rw [e]; rfl
    refine x.call [0] rfl trivial rfl (is_spec s l n c 1) rfl ⟨⟨rfl, rfl⟩, rfl, trivial⟩ ⟨⟨rfl, veq0_d rfl, rfl, rfl, trivial⟩, trivial⟩ ?_
    refine x.cond rfl trivial (fun b => ?_) (fun b => ?_)
    · have b : ((!isV l n 1) && false) = true := b
      simp at b
    have n1 : ¬ (isV l n 1 = false ∧ (actV s l w.data.toList).isNone = true) := by rw [hact]; simp
    refine x.call [0] rfl trivial rfl (is_spec s l n c 1) rfl ⟨⟨rfl, rfl⟩, rfl, trivial⟩ ⟨⟨rfl, veq0_d rfl, rfl, rfl, trivial⟩, trivial⟩ ?_
    refine x.callG [0] rfl trivial rfl (fun _ => text_spec s l n c hl (by omega) 1 (by omega)) rfl ⟨⟨rfl, rfl⟩, rfl, trivial⟩ ⟨⟨rfl, veq0_d rfl, rfl, rfl, trivial⟩, trivial⟩ ⟨⟨rfl, veq0_d rfl, rfl, rfl, trivial⟩, ⟨rfl, rfl, rfl, rfl, rfl, rfl, rfl, rfl, rfl, rfl, trivial⟩, ⟨rfl, rfl, rfl, rfl, rfl, rfl, rfl, rfl, rfl, trivial⟩, ⟨rfl, rfl, rfl, fun _ _ => rfl⟩, ⟨rfl, rfl, rfl, fun _ _ => rfl⟩, ⟨rfl, rfl, rfl, rfl, rfl, trivial, trivial, rfl, rfl, trivial⟩, trivial⟩ ?_
    refine x.cond rfl trivial (fun b2 => ?_) (fun b2 => ?_)
    · have b2 : (isV l n 1 && !decide ((txV s l (n + 1)).data.toList = [61])) = true := b2
      have b2 : isV l n 1 = true ∧ ¬ (txV s l (n + 1)).data.toList = [61] := by simpa using b2
      refine x.die [0] rfl (by simp only [AllP, inI64]; omega) rfl hfail1 ⟨⟨rfl, rfl⟩, rfl, trivial⟩ rfl ⟨⟨rfl, veq0_d rfl, ei, rfl, trivial⟩, trivial⟩ ?_
      rw [instrV, hw, if_neg n1, if_pos b2]
      exact ⟨rfl, rfl⟩
    have b2 : (isV l n 1 && !decide ((txV s l (n + 1)).data.toList = [61])) = false := b2
    have n2 : ¬ (isV l n 1 = true ∧ ¬ (txV s l (n + 1)).data.toList = [61]) := fun hh => by rw [hh.1, decide_eq_false hh.2] at b2; cases b2
    by_cases h3 : 4096 ≤ c
    · rw [if_pos (by omega)] at hroom
      refine x.die [0] rfl trivial rfl hroom ⟨⟨rfl, rfl⟩, rfl, rfl, trivial⟩ rfl ⟨⟨rfl, veq0_d rfl, rfl, rfl, trivial⟩, trivial⟩ ?_
      rw [instrV, hw, if_neg n1, if_neg n2, if_pos h3]
      exact ⟨rfl, rfl⟩
    rw [if_neg (by omega)] at hroom
    refine x.call [0] rfl trivial rfl hroom rfl ⟨⟨rfl, rfl⟩, rfl, rfl, trivial⟩ ⟨⟨rfl, veq0_d rfl, rfl, rfl, trivial⟩, trivial⟩ ?_
    have hv : instrV s l n c = act2V s l (n + 1) (ins0 (atV s l n)) := by rw [instrV, hw, if_neg n1, if_neg n2, if_neg h3, hact]
    rw [hv]
    have h1 := act2_spec s l (n + 1) (c + 1) hl (by omega) (ins0 (atV s l n)) (Nat.zero_le _)
    obtain ⟨V, hV⟩ : ∃ V, act2V s l (n + 1) (ins0 (atV s l n)) = V := ⟨_, rfl⟩
    rw [hV] at h1 ⊢
    refine x.cond rfl (by simp only [AllP, inI64]; omega) (fun _ => ?_) (fun b => by cases b)
    rcases V with ⟨a, b⟩ | ⟨n', y'⟩
    · exact x.die [0, 2, 3, 4] rfl (by simp only [AllP, inI64]; omega) rfl h1 ⟨⟨rfl, rfl⟩, ⟨rfl, rfl⟩, trivial⟩ rfl ⟨⟨rfl, veq0_d rfl, ei, ej, trivial⟩, ⟨rfl, rfl, rfl, rfl, rfl, rfl, rfl, rfl, rfl, trivial⟩, ⟨rfl, rfl, rfl, fun j hj => absurd hj (Nat.not_lt_zero _)⟩, ⟨rfl, rfl, rfl, fun j hj => absurd hj (Nat.not_lt_zero _)⟩, trivial⟩ ⟨rfl, rfl⟩
    · refine x.call [0, 2, 3, 4] rfl (by simp only [AllP, inI64]; omega) rfl h1 rfl ⟨⟨rfl, rfl⟩, ⟨rfl, rfl⟩, trivial⟩ ⟨⟨rfl, veq0_d rfl, ei, ej, trivial⟩, ⟨rfl, rfl, rfl, rfl, rfl, rfl, rfl, rfl, rfl, trivial⟩, ⟨rfl, rfl, rfl, fun j hj => absurd hj (Nat.not_lt_zero _)⟩, ⟨rfl, rfl, rfl, fun j hj => absurd hj (Nat.not_lt_zero _)⟩, trivial⟩ ?_
      refine x.exit rfl trivial ?_
      exact ⟨.inr rfl, ⟨rfl, rfl, rfl, rfl, rfl, rfl, rfl, rfl, rfl, trivial⟩, ⟨⟨rfl, veq0_d rfl, rfl, rfl, trivial⟩, ⟨rfl, rfl, rfl, fun _ _ => rfl⟩, ⟨rfl, rfl, rfl, fun _ _ => rfl⟩, trivial⟩, rfl⟩
  refine ⟨fun e => ?_, fun g2 => ?_⟩
  · have lt : n < l.length := tx_lt (by rw [hw]; exact e)
    have hact : actV s l w.data.toList = some (act3V s l) := by rw [e]; rfl
    refine x.call [0] rfl trivial rfl (is_spec s l n c 1) rfl ⟨⟨rfl, rfl⟩, rfl, trivial⟩ ⟨⟨rfl, veq0_d rfl, rfl, rfl, trivial⟩, trivial⟩ ?_
    refine x.cond rfl trivial (fun b => ?_) (fun b => ?_)
    · have b : ((!isV l n 1) && false) = true := b
      simp at b
    have n1 : ¬ (isV l n 1 = false ∧ (actV s l w.data.toList).isNone = true) := by rw [hact]; simp
    refine x.call [0] rfl trivial rfl (is_spec s l n c 1) rfl ⟨⟨rfl, rfl⟩, rfl, trivial⟩ ⟨⟨rfl, veq0_d rfl, rfl, rfl, trivial⟩, trivial⟩ ?_
    refine x.callG [0] rfl trivial rfl (fun _ => text_spec s l n c hl (by omega) 1 (by omega)) rfl ⟨⟨rfl, rfl⟩, rfl, trivial⟩ ⟨⟨rfl, veq0_d rfl, rfl, rfl, trivial⟩, trivial⟩ ⟨⟨rfl, veq0_d rfl, rfl, rfl, trivial⟩, ⟨rfl, rfl, rfl, rfl, rfl, rfl, rfl, rfl, rfl, rfl, trivial⟩, ⟨rfl, rfl, rfl, rfl, rfl, rfl, rfl, rfl, rfl, trivial⟩, ⟨rfl, rfl, rfl, fun _ _ => rfl⟩, ⟨rfl, rfl, rfl, fun _ _ => rfl⟩, ⟨rfl, rfl, rfl, rfl, rfl, trivial, trivial, rfl, rfl, trivial⟩, trivial⟩ ?_
    refine x.cond rfl trivial (fun b2 => ?_) (fun b2 => ?_)
    · have b2 : (isV l n 1 && !decide ((txV s l (n + 1)).data.toList = [61])) = true := b2
      have b2 : isV l n 1 = true ∧ ¬ (txV s l (n + 1)).data.toList = [61] := by simpa using b2
      refine x.die [0] rfl (by simp only [AllP, inI64]; omega) rfl hfail1 ⟨⟨rfl, rfl⟩, rfl, trivial⟩ rfl ⟨⟨rfl, veq0_d rfl, ei, rfl, trivial⟩, trivial⟩ ?_
      rw [instrV, hw, if_neg n1, if_pos b2]
      exact ⟨rfl, rfl⟩
    have b2 : (isV l n 1 && !decide ((txV s l (n + 1)).data.toList = [61])) = false := b2
    have n2 : ¬ (isV l n 1 = true ∧ ¬ (txV s l (n + 1)).data.toList = [61]) := fun hh => by rw [hh.1, decide_eq_false hh.2] at b2; cases b2
    by_cases h3 : 4096 ≤ c
    · rw [if_pos (by omega)] at hroom
      refine x.die [0] rfl trivial rfl hroom ⟨⟨rfl, rfl⟩, rfl, rfl, trivial⟩ rfl ⟨⟨rfl, veq0_d rfl, rfl, rfl, trivial⟩, trivial⟩ ?_
      rw [instrV, hw, if_neg n1, if_neg n2, if_pos h3]
      exact ⟨rfl, rfl⟩
    rw [if_neg (by omega)] at hroom
    refine x.call [0] rfl trivial rfl hroom rfl ⟨⟨rfl, rfl⟩, rfl, rfl, trivial⟩ ⟨⟨rfl, veq0_d rfl, rfl, rfl, trivial⟩, trivial⟩ ?_
    have hv : instrV s l n c = act3V s l (n + 1) (ins0 (atV s l n)) := by rw [instrV, hw, if_neg n1, if_neg n2, if_neg h3, hact]
    rw [hv]
    have h1 := act3_spec s l (n + 1) (c + 1) hl (by omega) (ins0 (atV s l n))
    obtain ⟨V, hV⟩ : ∃ V, act3V s l (n + 1) (ins0 (atV s l n)) = V := ⟨_, rfl⟩
    rw [hV] at h1 ⊢
    refine x.cond rfl (by simp only [AllP, inI64]; omega) (fun _ => ?_) (fun b => by cases b)
    rcases V with ⟨a, b⟩ | ⟨n', y'⟩
    · exact x.die [0, 2, 3, 4] rfl (by simp only [AllP, inI64]; omega) rfl h1 ⟨⟨rfl, rfl⟩, ⟨rfl, rfl⟩, trivial⟩ rfl ⟨⟨rfl, veq0_d rfl, ei, ej, trivial⟩, ⟨rfl, rfl, rfl, rfl, rfl, rfl, rfl, rfl, rfl, trivial⟩, ⟨rfl, rfl, rfl, fun j hj => absurd hj (Nat.not_lt_zero _)⟩, ⟨rfl, rfl, rfl, fun j hj => absurd hj (Nat.not_lt_zero _)⟩, trivial⟩ ⟨rfl, rfl⟩
    · refine x.call [0, 2, 3, 4] rfl (by simp only [AllP, inI64]; omega) rfl h1 rfl ⟨⟨rfl, rfl⟩, ⟨rfl, rfl⟩, trivial⟩ ⟨⟨rfl, veq0_d rfl, ei, ej, trivial⟩, ⟨rfl, rfl, rfl, rfl, rfl, rfl, rfl, rfl, rfl, trivial⟩, ⟨rfl, rfl, rfl, fun j hj => absurd hj (Nat.not_lt_zero _)⟩, ⟨rfl, rfl, rfl, fun j hj => absurd hj (Nat.not_lt_zero _)⟩, trivial⟩ ?_
      refine x.exit rfl trivial ?_
      exact ⟨.inr rfl, ⟨rfl, rfl, rfl, rfl, rfl, rfl, rfl, rfl, rfl, trivial⟩, ⟨⟨rfl, veq0_d rfl, rfl, rfl, trivial⟩, ⟨rfl, rfl, rfl, fun _ _ => rfl⟩, ⟨rfl, rfl, rfl, fun _ _ => rfl⟩, trivial⟩, rfl⟩
  refine ⟨fun e => ?_, fun g3 => ?_⟩
  · have lt : n < l.length := tx_lt (by rw [hw]; exact e)
    have hact : actV s l w.data.toList = some (act4V s l) := by rw [e]; rfl
    refine x.call [0] rfl trivial rfl (is_spec s l n c 1) rfl ⟨⟨rfl, rfl⟩, rfl, trivial⟩ ⟨⟨rfl, veq0_d rfl, rfl, rfl, trivial⟩, trivial⟩ ?_
    refine x.cond rfl trivial (fun b => ?_) (fun b => ?_)
    · have b : ((!isV l n 1) && false) = true := b
      simp at b
    have n1 : ¬ (isV l n 1 = false ∧ (actV s l w.data.toList).isNone = true) := by rw [hact]; simp
    refine x.call [0] rfl trivial rfl (is_spec s l n c 1) rfl ⟨⟨rfl, rfl⟩, rfl, trivial⟩ ⟨⟨rfl, veq0_d rfl, rfl, rfl, trivial⟩, trivial⟩ ?_
    refine x.callG [0] rfl trivial rfl (fun _ => text_spec s l n c hl (by omega) 1 (by omega)) rfl ⟨⟨rfl, rfl⟩, rfl, trivial⟩ ⟨⟨rfl, veq0_d rfl, rfl, rfl, trivial⟩, trivial⟩ ⟨⟨rfl, veq0_d rfl, rfl, rfl, trivial⟩, ⟨rfl, rfl, rfl, rfl, rfl, rfl, rfl, rfl, rfl, rfl, trivial⟩, ⟨rfl, rfl, rfl, rfl, rfl, rfl, rfl, rfl, rfl, trivial⟩, ⟨rfl, rfl, rfl, fun _ _ => rfl⟩, ⟨rfl, rfl, rfl, fun _ _ => rfl⟩, ⟨rfl, rfl, rfl, rfl, rfl, trivial, trivial, rfl, rfl, trivial⟩, trivial⟩ ?_
    refine x.cond rfl trivial (fun b2 => ?_) (fun b2 => ?_)
    · have b2 : (isV l n 1 && !decide ((txV s l (n + 1)).data.toList = [61])) = true := b2
      have b2 : isV l n 1 = true ∧ ¬ (txV s l (n + 1)).data.toList = [61] := by simpa using b2
      refine x.die [0] rfl (by simp only [AllP, inI64]; omega) rfl hfail1 ⟨⟨rfl, rfl⟩, rfl, trivial⟩ rfl ⟨⟨rfl, veq0_d rfl, ei, rfl, trivial⟩, trivial⟩ ?_
      rw [instrV, hw, if_neg n1, if_pos b2]
      exact ⟨rfl, rfl⟩
    have b2 : (isV l n 1 && !decide ((txV s l (n + 1)).data.toList = [61])) = false := b2
    have n2 : ¬ (isV l n 1 = true ∧ ¬ (txV s l (n + 1)).data.toList = [61]) := fun hh => by rw [hh.1, decide_eq_false hh.2] at b2; cases b2
    by_cases h3 : 4096 ≤ c
    · rw [if_pos (by omega)] at hroom
      refine x.die [0] rfl trivial rfl hroom ⟨⟨rfl, rfl⟩, rfl, rfl, trivial⟩ rfl ⟨⟨rfl, veq0_d rfl, rfl, rfl, trivial⟩, trivial⟩ ?_
      rw [instrV, hw, if_neg n1, if_neg n2, if_pos h3]
      exact ⟨rfl, rfl⟩
    rw [if_neg (by omega)] at hroom
    refine x.call [0] rfl trivial rfl hroom rfl ⟨⟨rfl, rfl⟩, rfl, rfl, trivial⟩ ⟨⟨rfl, veq0_d rfl, rfl, rfl, trivial⟩, trivial⟩ ?_
    have hv : instrV s l n c = act4V s l (n + 1) (ins0 (atV s l n)) := by rw [instrV, hw, if_neg n1, if_neg n2, if_neg h3, hact]
    rw [hv]
    have h1 := act4_spec s l (n + 1) (c + 1) hl (by omega) (ins0 (atV s l n)) (Nat.zero_le _)
    obtain ⟨V, hV⟩ : ∃ V, act4V s l (n + 1) (ins0 (atV s l n)) = V := ⟨_, rfl⟩
    rw [hV] at h1 ⊢
    refine x.cond rfl (by simp only [AllP, inI64]; omega) (fun _ => ?_) (fun b => by cases b)
    rcases V with ⟨a, b⟩ | ⟨n', y'⟩
    · exact x.die [0, 2, 3, 4] rfl (by simp only [AllP, inI64]; omega) rfl h1 ⟨⟨rfl, rfl⟩, ⟨rfl, rfl⟩, trivial⟩ rfl ⟨⟨rfl, veq0_d rfl, ei, ej, trivial⟩, ⟨rfl, rfl, rfl, rfl, rfl, rfl, rfl, rfl, rfl, trivial⟩, ⟨rfl, rfl, rfl, fun j hj => absurd hj (Nat.not_lt_zero _)⟩, ⟨rfl, rfl, rfl, fun j hj => absurd hj (Nat.not_lt_zero _)⟩, trivial⟩ ⟨rfl, rfl⟩
    · refine x.call [0, 2, 3, 4] rfl (by simp only [AllP, inI64]; omega) rfl h1 rfl ⟨⟨rfl, rfl⟩, ⟨rfl, rfl⟩, trivial⟩ ⟨⟨rfl, veq0_d rfl, ei, ej, trivial⟩, ⟨rfl, rfl, rfl, rfl, rfl, rfl, rfl, rfl, rfl, trivial⟩, ⟨rfl, rfl, rfl, fun j hj => absurd hj (Nat.not_lt_zero _)⟩, ⟨rfl, rfl, rfl, fun j hj => absurd hj (Nat.not_lt_zero _)⟩, trivial⟩ ?_
      refine x.exit rfl trivial ?_
      exact ⟨.inr rfl, ⟨rfl, rfl, rfl, rfl, rfl, rfl, rfl, rfl, rfl, trivial⟩, ⟨⟨rfl, veq0_d rfl, rfl, rfl, trivial⟩, ⟨rfl, rfl, rfl, fun _ _ => rfl⟩, ⟨rfl, rfl, rfl, fun _ _ => rfl⟩, trivial⟩, rfl⟩
  refine ⟨fun e => ?_, fun g4 => ?_⟩
  · have lt : n < l.length := tx_lt (by rw [hw]; exact e)
    have hact : actV s l w.data.toList = some (act5V s l) := by rw [e]; rfl
    refine x.call [0] rfl trivial rfl (is_spec s l n c 1) rfl ⟨⟨rfl, rfl⟩, rfl, trivial⟩ ⟨⟨rfl, veq0_d rfl, rfl, rfl, trivial⟩, trivial⟩ ?_
    refine x.cond rfl trivial (fun b => ?_) (fun b => ?_)
    · have b : ((!isV l n 1) && false) = true := b
      simp at b
    have n1 : ¬ (isV l n 1 = false ∧ (actV s l w.data.toList).isNone = true) := by rw [hact]; simp
    refine x.call [0] rfl trivial rfl (is_spec s l n c 1) rfl ⟨⟨rfl, rfl⟩, rfl, trivial⟩ ⟨⟨rfl, veq0_d rfl, rfl, rfl, trivial⟩, trivial⟩ ?_
    refine x.callG [0] rfl trivial rfl (fun _ => text_spec s l n c hl (by omega) 1 (by omega)) rfl ⟨⟨rfl, rfl⟩, rfl, trivial⟩ ⟨⟨rfl, veq0_d rfl, rfl, rfl, trivial⟩, trivial⟩ ⟨⟨rfl, veq0_d rfl, rfl, rfl, trivial⟩, ⟨rfl, rfl, rfl, rfl, rfl, rfl, rfl, rfl, rfl, rfl, trivial⟩, ⟨rfl, rfl, rfl, rfl, rfl, rfl, rfl, rfl, rfl, trivial⟩, ⟨rfl, rfl, rfl, fun _ _ => rfl⟩, ⟨rfl, rfl, rfl, fun _ _ => rfl⟩, ⟨rfl, rfl, rfl, rfl, rfl, trivial, trivial, rfl, rfl, trivial⟩, trivial⟩ ?_
    refine x.cond rfl trivial (fun b2 => ?_) (fun b2 => ?_)
    · have b2 : (isV l n 1 && !decide ((txV s l (n + 1)).data.toList = [61])) = true := b2
      have b2 : isV l n 1 = true ∧ ¬ (txV s l (n + 1)).data.toList = [61] := by simpa using b2
      refine x.die [0] rfl (by simp only [AllP, inI64]; omega) rfl hfail1 ⟨⟨rfl, rfl⟩, rfl, trivial⟩ rfl ⟨⟨rfl, veq0_d rfl, ei, rfl, trivial⟩, trivial⟩ ?_
      rw [instrV, hw, if_neg n1, if_pos b2]
      exact ⟨rfl, rfl⟩
    have b2 : (isV l n 1 && !decide ((txV s l (n + 1)).data.toList = [61])) = false := b2
    have n2 : ¬ (isV l n 1 = true ∧ ¬ (txV s l (n + 1)).data.toList = [61]) := fun hh => by rw [hh.1, decide_eq_false hh.2] at b2; cases b2
    by_cases h3 : 4096 ≤ c
    · rw [if_pos (by omega)] at hroom
      refine x.die [0] rfl trivial rfl hroom ⟨⟨rfl, rfl⟩, rfl, rfl, trivial⟩ rfl ⟨⟨rfl, veq0_d rfl, rfl, rfl, trivial⟩, trivial⟩ ?_
      rw [instrV, hw, if_neg n1, if_neg n2, if_pos h3]
      exact ⟨rfl, rfl⟩
    rw [if_neg (by omega)] at hroom
    refine x.call [0] rfl trivial rfl hroom rfl ⟨⟨rfl, rfl⟩, rfl, rfl, trivial⟩ ⟨⟨rfl, veq0_d rfl, rfl, rfl, trivial⟩, trivial⟩ ?_
    have hv : instrV s l n c = act5V s l (n + 1) (ins0 (atV s l n)) := by rw [instrV, hw, if_neg n1, if_neg n2, if_neg h3, hact]
    rw [hv]
    have h1 := act5_spec s l (n + 1) (c + 1) hl (by omega) (ins0 (atV s l n)) (Nat.zero_le _)
    obtain ⟨V, hV⟩ : ∃ V, act5V s l (n + 1) (ins0 (atV s l n)) = V := ⟨_, rfl⟩
    rw [hV] at h1 ⊢
    refine x.cond rfl (by simp only [AllP, inI64]; omega) (fun _ => ?_) (fun b => by cases b)
    rcases V with ⟨a, b⟩ | ⟨n', y'⟩
    · exact x.die [0, 2, 3, 4] rfl (by simp only [AllP, inI64]; omega) rfl h1 ⟨⟨rfl, rfl⟩, ⟨rfl, rfl⟩, trivial⟩ rfl ⟨⟨rfl, veq0_d rfl, ei, ej, trivial⟩, ⟨rfl, rfl, rfl, rfl, rfl, rfl, rfl, rfl, rfl, trivial⟩, ⟨rfl, rfl, rfl, fun j hj => absurd hj (Nat.not_lt_zero _)⟩, ⟨rfl, rfl, rfl, fun j hj => absurd hj (Nat.not_lt_zero _)⟩, trivial⟩ ⟨rfl, rfl⟩
    · refine x.call [0, 2, 3, 4] rfl (by simp only [AllP, inI64]; omega) rfl h1 rfl ⟨⟨rfl, rfl⟩, ⟨rfl, rfl⟩, trivial⟩ ⟨⟨rfl, veq0_d rfl, ei, ej, trivial⟩, ⟨rfl, rfl, rfl, rfl, rfl, rfl, rfl, rfl, rfl, trivial⟩, ⟨rfl, rfl, rfl, fun j hj => absurd hj (Nat.not_lt_zero _)⟩, ⟨rfl, rfl, rfl, fun j hj => absurd hj (Nat.not_lt_zero _)⟩, trivial⟩ ?_
      refine x.exit rfl trivial ?_
      exact ⟨.inr rfl, ⟨rfl, rfl, rfl, rfl, rfl, rfl, rfl, rfl, rfl, trivial⟩, ⟨⟨rfl, veq0_d rfl, rfl, rfl, trivial⟩, ⟨rfl, rfl, rfl, fun _ _ => rfl⟩, ⟨rfl, rfl, rfl, fun _ _ => rfl⟩, trivial⟩, rfl⟩
  have hact : actV s l w.data.toList = none := by rw [actV, if_neg g0, if_neg g1, if_neg g2, if_neg g3, if_neg g4]
  refine x.call [0] rfl trivial rfl (is_spec s l n c 1) rfl ⟨⟨rfl, rfl⟩, rfl, trivial⟩ ⟨⟨rfl, veq0_d rfl, rfl, rfl, trivial⟩, trivial⟩ ?_
  refine x.cond rfl trivial (fun b => ?_) (fun b => ?_)
  · have b : ((!isV l n 1) && true) = true := b
    have b : isV l n 1 = false := by simpa using b
    refine x.die [0] rfl trivial rfl (fail_spec s l n c (by omega) 7) ⟨⟨rfl, rfl⟩, rfl, trivial⟩ rfl ⟨⟨rfl, veq0_d rfl, rfl, rfl, trivial⟩, trivial⟩ ?_
    rw [instrV, hw, hact, if_pos ⟨b, rfl⟩]
    exact ⟨rfl, rfl⟩
  have b : ((!isV l n 1) && true) = false := b
  have b : isV l n 1 = true := by simpa using b
  have n1 : ¬ (isV l n 1 = false ∧ (actV s l w.data.toList).isNone = true) := by rw [b]; simp
  refine x.call [0] rfl trivial rfl (is_spec s l n c 1) rfl ⟨⟨rfl, rfl⟩, rfl, trivial⟩ ⟨⟨rfl, veq0_d rfl, rfl, rfl, trivial⟩, trivial⟩ ?_
  refine x.callG [0] rfl trivial rfl (fun _ => text_spec s l n c hl (by omega) 1 (by omega)) rfl ⟨⟨rfl, rfl⟩, rfl, trivial⟩ ⟨⟨rfl, veq0_d rfl, rfl, rfl, trivial⟩, trivial⟩ ⟨⟨rfl, veq0_d rfl, rfl, rfl, trivial⟩, ⟨rfl, rfl, rfl, rfl, rfl, rfl, rfl, rfl, rfl, rfl, trivial⟩, ⟨rfl, rfl, rfl, rfl, rfl, rfl, rfl, rfl, rfl, trivial⟩, ⟨rfl, rfl, rfl, fun _ _ => rfl⟩, ⟨rfl, rfl, rfl, fun _ _ => rfl⟩, ⟨rfl, rfl, rfl, rfl, rfl, trivial, trivial, rfl, rfl, trivial⟩, trivial⟩ ?_
  refine x.cond rfl trivial (fun b2 => ?_) (fun b2 => ?_)
  · have b2 : (isV l n 1 && !decide ((txV s l (n + 1)).data.toList = [61])) = true := b2
    have b2 : isV l n 1 = true ∧ ¬ (txV s l (n + 1)).data.toList = [61] := by simpa using b2
    refine x.die [0] rfl (by simp only [AllP, inI64]; omega) rfl hfail1 ⟨⟨rfl, rfl⟩, rfl, trivial⟩ rfl ⟨⟨rfl, veq0_d rfl, ei, rfl, trivial⟩, trivial⟩ ?_
    rw [instrV, hw, if_neg n1, if_pos b2]
    exact ⟨rfl, rfl⟩
  have b2 : (isV l n 1 && !decide ((txV s l (n + 1)).data.toList = [61])) = false := b2
  have n2 : ¬ (isV l n 1 = true ∧ ¬ (txV s l (n + 1)).data.toList = [61]) := fun hh => by rw [hh.1, decide_eq_false hh.2] at b2; cases b2
  by_cases h3 : 4096 ≤ c
  · rw [if_pos (by omega)] at hroom
    refine x.die [0] rfl trivial rfl hroom ⟨⟨rfl, rfl⟩, rfl, rfl, trivial⟩ rfl ⟨⟨rfl, veq0_d rfl, rfl, rfl, trivial⟩, trivial⟩ ?_
    rw [instrV, hw, if_neg n1, if_neg n2, if_pos h3]
    exact ⟨rfl, rfl⟩
  rw [if_neg (by omega)] at hroom
  refine x.call [0] rfl trivial rfl hroom rfl ⟨⟨rfl, rfl⟩, rfl, rfl, trivial⟩ ⟨⟨rfl, veq0_d rfl, rfl, rfl, trivial⟩, trivial⟩ ?_
  have lt := isV_lt b
  have h61 : (txV s l (n + 1)).data.toList = [61] := Classical.byContradiction fun hh => n2 ⟨b, hh⟩
  have lt2 := tx_lt h61
  have hv : instrV s l n c = valueV s l (n + 1 + 1) { ins0 (atV s l n) with dst := w } := by
    rw [instrV, hw, if_neg n1, if_neg n2, if_neg h3, hact]
    simp only [nmV, needV, bnd, b, h61, if_true, hw]
  rw [hv]
  refine x.cond rfl (by simp only [AllP, inI64]; omega) (fun b => by cases b) (fun _ => ?_)
  have h1 := name7_spec s l n (c + 1) hl (by omega)
  rw [b, if_pos rfl, hw] at h1
  refine x.call [0] rfl trivial rfl h1 rfl ⟨⟨rfl, rfl⟩, trivial⟩ ⟨⟨rfl, veq0_d rfl, rfl, ej, trivial⟩, trivial⟩ ?_
  have h2 := need_spec s l (n + 1) (c + 1) hl (by omega) ⟨#[61]⟩
  rw [if_pos h61] at h2
  refine x.call [0] rfl trivial rfl h2 rfl ⟨⟨rfl, rfl⟩, rfl, trivial⟩ ⟨⟨rfl, veq0_d rfl, rfl, rfl, trivial⟩, trivial⟩ ?_
  have h4 := value7_spec s l (n + 1 + 1) (c + 1) hl (by omega) { ins0 (atV s l n) with dst := w } (Nat.zero_le _) (Nat.zero_le _)
  obtain ⟨V, hV⟩ : ∃ V, valueV s l (n + 1 + 1) { ins0 (atV s l n) with dst := w } = V := ⟨_, rfl⟩
  rw [hV] at h4 ⊢
  rcases V with ⟨a, b⟩ | ⟨n', y'⟩
  · exact x.die [0, 2, 3, 4] rfl trivial rfl h4 ⟨⟨rfl, rfl⟩, ⟨rfl, rfl⟩, trivial⟩ rfl ⟨⟨rfl, veq0_d rfl, rfl, rfl, trivial⟩, ⟨rfl, rfl, rfl, rfl, rfl, rfl, rfl, rfl, rfl, trivial⟩, ⟨rfl, rfl, rfl, fun j hj => absurd hj (Nat.not_lt_zero _)⟩, ⟨rfl, rfl, rfl, fun j hj => absurd hj (Nat.not_lt_zero _)⟩, trivial⟩ ⟨rfl, rfl⟩
  · refine x.call [0, 2, 3, 4] rfl trivial rfl h4 rfl ⟨⟨rfl, rfl⟩, ⟨rfl, rfl⟩, trivial⟩ ⟨⟨rfl, veq0_d rfl, rfl, rfl, trivial⟩, ⟨rfl, rfl, rfl, rfl, rfl, rfl, rfl, rfl, rfl, trivial⟩, ⟨rfl, rfl, rfl, fun j hj => absurd hj (Nat.not_lt_zero _)⟩, ⟨rfl, rfl, rfl, fun j hj => absurd hj (Nat.not_lt_zero _)⟩, trivial⟩ ?_
    refine x.exit rfl trivial ?_
    exact ⟨.inr rfl, ⟨rfl, rfl, rfl, rfl, rfl, rfl, rfl, rfl, rfl, trivial⟩, ⟨⟨rfl, veq0_d rfl, rfl, rfl, trivial⟩, ⟨rfl, rfl, rfl, fun _ _ => rfl⟩, ⟨rfl, rfl, rfl, fun _ _ => rfl⟩, trivial⟩, rfl⟩
end
end Go.Proofs.YteeofakohenpoaaGreatDoor

/- What is read lies further on, and within the text. -/
namespace Go.Proofs.YteeofakohenpoaaGreatDoor
open Go.Sx
set_option linter.unusedVariables false
set_option linter.unusedSimpArgs false

def Up {α : Type} (l : List Tok) (n : Nat) (r : Except (Int × Int) (Nat × α)) : Prop := ∀ n' x, r = .ok (n', x) → n < n' ∧ n' ≤ l.length
def Upw {α : Type} (l : List Tok) (n : Nat) (r : Except (Int × Int) (Nat × α)) : Prop := ∀ n' x, r = .ok (n', x) → n ≤ n' ∧ n' ≤ l.length
section
variable {α β : Type} {s : ByteArray} {l : List Tok} {n : Nat}
theorem Up.weak {r : Except (Int × Int) (Nat × α)} (h : Up l n r) : Upw l n r := fun n' x e => ⟨Nat.le_of_lt (h n' x e).1, (h n' x e).2⟩
theorem up_err {e : Int × Int} : Up (α := α) l n (.error e) := fun n' x h => by cases h
theorem upw_ok {x : α} (h : n ≤ l.length) : Upw l n (.ok (n, x)) := fun n' y e => by
  simp only [Except.ok.injEq, Prod.mk.injEq] at e
  omega
theorem up_bnd {r : Except (Int × Int) (Nat × α)} {k : Nat → α → Except (Int × Int) (Nat × β)} (h1 : Up l n r) (h2 : ∀ n' a, n < n' → n' ≤ l.length → Upw l n' (k n' a)) : Up l n (bnd r k) := fun n' x e => by
  rcases r with e1 | ⟨n1, a⟩
  · cases e
  · obtain ⟨p1, p2⟩ := h1 n1 a rfl
    obtain ⟨q1, q2⟩ := h2 n1 a p1 p2 n' x e
    exact ⟨by omega, q2⟩
theorem up_one {x : α} (h : n < l.length) : Up l n (.ok (n + 1, x)) := fun n' y e => by
  simp only [Except.ok.injEq, Prod.mk.injEq] at e
  omega
theorem nm_up : Up l n (nmV s l n) := by
  unfold nmV
  split
  · rename_i h; exact up_one (isV_lt h)
  · exact up_err
theorem need_up {b : UInt8} : Up l n (needV s l n b) := by
  unfold needV
  split
  · rename_i h; exact up_one (tx_lt h)
  · exact up_err
theorem arg_up {x : Ins} : Up l n (argV s l n x) := up_bnd nm_up fun n' a _ h => upw_ok h
theorem one_up {x : Ins} : Up l n (oneV7 s l n x) := up_bnd nm_up fun n' a _ h => upw_ok h
theorem ref_up {x : Ins} : Up l n (refV s l n x) := up_bnd nm_up fun n' a _ h => upw_ok h
theorem act1_up {x : Ins} : Up l n (act1V s l n x) := up_bnd nm_up fun _ _ _ _ => (up_bnd arg_up fun _ _ _ _ => (up_bnd arg_up fun _ _ _ h => upw_ok h).weak).weak
theorem act2_up {x : Ins} : Up l n (act2V s l n x) := up_bnd nm_up fun _ _ _ _ => (up_bnd arg_up fun _ _ _ h => upw_ok h).weak
theorem act3_up {x : Ins} : Up l n (act3V s l n x) := up_bnd nm_up fun _ _ _ h => upw_ok h
theorem act4_up {x : Ins} : Up l n (act4V s l n x) := up_bnd arg_up fun _ _ _ _ => (up_bnd nm_up fun _ _ _ _ => (up_bnd nm_up fun _ _ _ h => upw_ok h).weak).weak
theorem act5_up {x : Ins} : Up l n (act5V s l n x) := up_bnd arg_up fun _ _ _ h => upw_ok h
theorem const_up {x : Ins} : Up l n (constV s l n x) := by
  unfold constV
  split
  · rename_i h; exact up_one (isV_lt h)
  · exact up_err
theorem close_up {b : UInt8} {r : Except (Int × Int) (Nat × α)} (h : Up l n r) : Up l n (closeV s l b r) := by
  rcases r with e | ⟨n1, a⟩
  · exact up_err
  · unfold closeV
    dsimp only
    split
    · rename_i hb
      obtain ⟨p1, p2⟩ := h n1 a rfl
      intro n' x e
      have := tx_lt hb
      simp only [Except.ok.injEq, Prod.mk.injEq] at e
      omega
    · exact up_err
theorem names_up : Up l n (namesV s l n) := by
  unfold namesV
  split
  · rename_i h
    have h1 := tx_lt h
    split
    · rename_i h2
      have h3 := tx_lt h2
      intro n' x e
      simp only [Except.ok.injEq, Prod.mk.injEq] at e
      omega
    · refine close_up fun n' x e => ?_
      obtain ⟨p1, p2, _⟩ := namesF_le e
      exact ⟨by omega, p1⟩
  · exact up_err
theorem input_up {x : Ins} : Up l n (inputV s l n x) := ref_up
theorem call_up {x : Ins} : Up l n (callV s l n x) := up_bnd ref_up fun _ _ _ _ => (up_bnd names_up fun _ _ _ h => upw_ok h).weak
theorem release_up {x : Ins} : Up l n (releaseV s l n x) := up_bnd one_up fun _ _ _ _ => ref_up.weak
theorem cell_up {k : Int} {x : Ins} : Up l n (cellV k s l n x) := up_bnd ref_up fun _ _ _ _ => one_up.weak
theorem phi_up {x : Ins} : Up l n (phiV s l n x) := up_bnd need_up fun _ _ _ _ => (close_up fun n' x e => by
  obtain ⟨p1, p2⟩ := pairsF_ok e
  exact ⟨p1, p2⟩).weak
theorem up_step {r : Except (Int × Int) (Nat × α)} (h : Up l (n + 1) r) : Up l n r := fun n' x e => ⟨by have := (h n' x e).1; omega, (h n' x e).2⟩
theorem word_up {x : Ins} {w : List UInt8} : Up l n (wordV s l n x w) := by
  unfold wordV
  split
  · exact up_step const_up
  split
  · exact up_step cell_up
  split
  · exact up_step cell_up
  split
  · exact up_step input_up
  split
  · exact up_step call_up
  split
  · exact up_step release_up
  split
  · exact up_step phi_up
  · exact up_err
theorem value_up {x : Ins} : Up l n (valueV s l n x) := by
  unfold valueV
  split
  · exact up_step (up_bnd arg_up fun _ _ _ _ => arg_up.weak)
  · exact word_up
theorem act_up {w : List UInt8} {f : Nat → Ins → Except (Int × Int) (Nat × Ins)} (h : actV s l w = some f) {x : Ins} : Up l n (f n x) := by
  unfold actV at h
  split at h
  · cases h; exact act1_up
  split at h
  · cases h; exact act2_up
  split at h
  · cases h; exact act3_up
  split at h
  · cases h; exact act4_up
  split at h
  · cases h; exact act5_up
  · cases h
theorem instr_up {c : Nat} : Up l n (instrV s l n c) := by
  unfold instrV
  split
  · exact up_err
  split
  · exact up_err
  split
  · exact up_err
  cases h : actV s l (txV s l n).data.toList with
  | some f => exact up_step (act_up h)
  | none => exact up_bnd nm_up fun _ _ _ _ => (up_bnd need_up fun _ _ _ _ => value_up.weak).weak
theorem instr_c {c n' : Nat} {x : Ins} (h : instrV s l n c = .ok (n', x)) : c < 4096 := by
  unfold instrV at h
  split at h
  · cases h
  split at h
  · cases h
  split at h
  · cases h
  · omega
end
end Go.Proofs.YteeofakohenpoaaGreatDoor

/- A block, as the program reads it. -/
namespace Go.Proofs.YteeofakohenpoaaGreatDoor
open Go.Sx
set_option linter.unusedVariables false
set_option linter.unusedSimpArgs false
set_option maxRecDepth 100000

theorem zipIte_pos {c : Prop} [Decidable c] (h : c) : ∀ (ps qs : List D), ps.length = qs.length → zipIte c ps qs = ps
  | [], [], _ => by simp [zipIte]
  | a :: ps, b :: qs, e => by rw [zipIte, iteD_pos h, zipIte_pos h ps qs (by simpa using e)]
  | [], _ :: _, e => by simp at e
  | _ :: _, [], e => by simp at e
theorem zipIte_neg {c : Prop} [Decidable c] (h : ¬ c) : ∀ (ps qs : List D), ps.length = qs.length → zipIte c ps qs = qs
  | [], [], _ => by simp [zipIte]
  | a :: ps, b :: qs, e => by rw [zipIte, iteD_neg h, zipIte_neg h ps qs (by simpa using e)]
  | [], _ :: _, e => by simp at e
  | _ :: _, [], e => by simp at e
theorem app_gen {α : Type} (d : α → List D) (N : Nat) (hd : ∀ a, (d a).length = N) (x0 : α) (xs : List α) (x : α) (j : Nat) (hj : j < xs.length + 1) : app xs.length (fun i => d (xs.getD i x0)) (fun _ => d x) j = d ((xs ++ [x]).getD j x0) := by
  unfold app
  show zipIte (j < xs.length) (d (xs.getD j x0)) (d x) = _
  by_cases h : j < xs.length
  · rw [zipIte_pos h _ _ (by rw [hd, hd]), List.getD_eq_getElem?_getD, List.getD_eq_getElem?_getD, List.getElem?_append_left h]
  · have e : j = xs.length := by omega
    rw [zipIte_neg h _ _ (by rw [hd, hd]), List.getD_eq_getElem?_getD (l := xs ++ [x]), List.getElem?_append_right (by omega), e, Nat.sub_self]
    rfl
abbrev dStrs (o : List ByteArray) : D := .sl 1 o.length fun i => [.str (o.getD i .empty)]
abbrev dIns (x : Ins) : List D := [.int .u8 x.kind, .int .u8 x.op, .str x.dst, .str x.ref, .str x.alt, dStrs x.args, dStrs x.frm, .int .i64 x.num, .int .i64 x.at_]
abbrev codeC (xs : List Ins) : Ch := .vec 42 9 xs.length fun i => dIns (xs.getD i (ins0 0))
/-- Instructions, to a } or the next block. -/
def codeF (s : ByteArray) (l : List Tok) : Nat → Nat → Nat → List Ins → Except (Int × Int) (Nat × (Nat × List Ins))
  | 0, _, _, _ => .error (0, 0)
  | f + 1, n, c, xs =>
    if (txV s l n).data.toList = [125] ∨ begB s l n = true then .ok (n, (c, xs))
    else bnd (instrV s l n c) fun n x => codeF s l f n (c + 1) (xs ++ [x])
structure Blk where
  name : ByteArray
  code : List Ins
  at_ : Int
def blockV (s : ByteArray) (l : List Tok) (n c : Nat) : Except (Int × Int) (Nat × (Nat × Blk)) :=
  bnd (nmV s l n) fun n1 nm => bnd (needV s l n1 58) fun n2 _ => bnd (codeF s l 4098 n2 c []) fun n3 r => .ok (n3, (r.1, ⟨nm, r.2, atV s l n⟩))
def blockO (s : ByteArray) (l : List Tok) : Except (Int × Int) (Nat × (Nat × Blk)) → Out
  | .ok (n, (c, b)) => .ret (.agg [vs b.name, .own 1, vi b.at_]) [pC s l n c, codeC b.code]
  | .error (a, e) => dieO a e
structure BW7 (s : ByteArray) (l : List Tok) (R : Except (Int × Int) (Nat × (Nat × List Ins))) where
  f : Nat
  n : Nat
  c : Nat
  xs : List Ins
  hf : 4098 ≤ f + c
  hn : n ≤ l.length
  hc : c ≤ 4096
  hx : xs.length ≤ c
  same : codeF s l f n c xs = R
section
variable (s : ByteArray) (l : List Tok) (n c : Nat) (hl : Lies s l) (hn : n ≤ l.length) (hc : c ≤ 4096)
include hl hn hc in
theorem block7_spec : ProcO PG 73 1 [.ptr 0 0] [pC s l n c] (blockO s l (blockV s l n c)) := by
  have hll := hl.2.1
  refine ProcO.mk (cfgF 27 1) tysOK [0, 3] Tryz.func73 rfl (by kernel_rfl) rfl rfl (by rcases blockV s l n c with ⟨a, e⟩ | ⟨n', c', o⟩ <;> rfl) ?_
  intro C x
  refine x.call [0] rfl trivial rfl (at_spec s l n c (by omega)) rfl ⟨⟨rfl, rfl⟩, trivial⟩ ⟨⟨rfl, veq0_d rfl, rfl, rfl, trivial⟩, trivial⟩ ?_
  have h1 := name7_spec s l n c hl (by omega)
  cases e1 : isV l n 1 with
  | false =>
    rw [e1, if_neg (by simp)] at h1
    refine x.die [0] rfl trivial rfl h1 ⟨⟨rfl, rfl⟩, trivial⟩ rfl ⟨⟨rfl, veq0_d rfl, rfl, rfl, trivial⟩, trivial⟩ ?_
    simp only [blockV, nmV, bnd, e1, if_true, Bool.false_eq_true, if_false]
    exact ⟨rfl, rfl⟩
  | true =>
    rw [e1, if_pos rfl] at h1
    have l1 := isV_lt e1
    refine x.call [0] rfl trivial rfl h1 rfl ⟨⟨rfl, rfl⟩, trivial⟩ ⟨⟨rfl, veq0_d rfl, rfl, rfl, trivial⟩, trivial⟩ ?_
    have h2 := need_spec s l (n + 1) c hl (by omega) ⟨#[58]⟩
    by_cases e2 : (txV s l (n + 1)).data.toList = [58]
    · rw [if_pos e2] at h2
      have l2 := tx_lt e2
      refine x.call [0] rfl trivial rfl h2 rfl ⟨⟨rfl, rfl⟩, rfl, trivial⟩ ⟨⟨rfl, veq0_d rfl, rfl, rfl, trivial⟩, trivial⟩ ?_
      obtain ⟨R, hR⟩ : ∃ R, codeF s l 4098 (n + 1 + 1) c [] = R := ⟨_, rfl⟩
      have hV : blockV s l n c = bnd R fun n3 r => .ok (n3, (r.1, ⟨txV s l n, r.2, atV s l n⟩)) := by
        simp only [blockV, nmV, needV, bnd, e1, e2, if_true, hR]
      rw [hV]
      refine x.toLoop rfl trivial ?_
      refine Go.ownB 2 1 42 9 (fun i => dIns (([] : List Ins).getD i (ins0 0))) rfl rfl ?_
      refine x.loop (α := BW7 s l R) (fun y => ⟨[(0, .ptr 0 0), (2, .ptr 1 0), (3, .ptr 2 0)], [(0, pC s l y.n y.c), (1, .box [vs .empty, .nils, vi 0]), (2, .box [vs (txV s l n), .own 3, vi (atV s l n)]), (3, codeC y.xs)], 4⟩) (fun y => y.f) ⟨4098, n + 1 + 1, c, [], by omega, by omega, hc, Nat.zero_le _, hR⟩ rfl trivial ⟨⟨⟨rfl, rfl⟩, ⟨rfl, rfl⟩, ⟨rfl, rfl⟩, trivial⟩, ⟨⟨rfl, veq0_d rfl, rfl, rfl, trivial⟩, ⟨rfl, trivial, rfl, trivial⟩, ⟨rfl, rfl, rfl, trivial⟩, ⟨rfl, rfl, rfl, fun j hj => absurd hj (Nat.not_lt_zero _)⟩, trivial⟩, rfl⟩ (fun y => ?_)
      obtain ⟨f, m, c, xs, hf, hm, hc, hx, same⟩ := y
      change Go C _ ⟨[(0, .ptr 0 0), (2, .ptr 1 0), (3, .ptr 2 0)], [(0, pC s l m c), (1, .box [vs .empty, .nils, vi 0]), (2, .box [vs (txV s l n), .own 3, vi (atV s l n)]), (3, codeC xs)], 4⟩ _
      obtain ⟨f, rfl⟩ : ∃ f', f = f' + 1 := ⟨f - 1, by omega⟩
      rw [codeF] at same
      refine x.call [0] rfl trivial rfl (text_spec s l m c hl (by omega) 0 (by omega)) rfl ⟨⟨rfl, rfl⟩, rfl, trivial⟩ ⟨⟨rfl, veq0_d rfl, rfl, rfl, trivial⟩, trivial⟩ ?_
      refine x.callG [0] rfl trivial rfl (fun _ => begins_spec s l m c hl (by omega)) rfl ⟨⟨rfl, rfl⟩, trivial⟩ ⟨⟨rfl, veq0_d rfl, rfl, rfl, trivial⟩, trivial⟩ ⟨⟨rfl, veq0_d rfl, rfl, rfl, trivial⟩, ⟨rfl, trivial, rfl, trivial⟩, ⟨rfl, rfl, rfl, trivial⟩, ⟨rfl, rfl, rfl, fun _ _ => rfl⟩, trivial⟩ ?_
      refine x.cond rfl trivial (fun b => ?_) (fun b => ?_)
      · have b : ((!decide ((txV s l m).data.toList = [125])) && !begB s l m) = true := b
        have b : ¬ ((txV s l m).data.toList = [125] ∨ begB s l m = true) := by simpa using b
        rw [if_neg b] at same
        have h3 := instr7_spec s l m c hl hm (by omega)
        obtain ⟨V, hW⟩ : ∃ V, instrV s l m c = V := ⟨_, rfl⟩
        rw [hW] at h3 same
        rcases V with ⟨a, e⟩ | ⟨n', x'⟩
        · refine x.draw [0] [2] [0, 1] [3, 4] [5, 6, 7] rfl trivial mixedP (by kernel_rfl) RetO.quiet rfl trivial (fun C1 x1 => ?_)
          refine x1.die [0] rfl trivial rfl h3 ⟨⟨rfl, rfl⟩, trivial⟩ rfl ⟨⟨rfl, veq0_d rfl, rfl, rfl, trivial⟩, trivial⟩ ⟨⟨_, rfl⟩, rfl, ?_⟩
          rw [← same]
          exact ⟨rfl, rfl⟩
        · obtain ⟨p1, p2⟩ := instr_up _ _ hW
          have p3 := instr_c hW
          simp only [bnd] at same
          refine x.draw [0] [2] [0, 1] [3, 4] [5, 6, 7] rfl trivial mixedP (by kernel_rfl) RetO.quiet rfl trivial (fun C1 x1 => ?_)
          refine x1.call [0] rfl trivial rfl h3 rfl ⟨⟨rfl, rfl⟩, trivial⟩ ⟨⟨rfl, veq0_d rfl, rfl, rfl, trivial⟩, trivial⟩ ?_
          refine Sx.Go.freeze 4 ?_
          refine Sx.Go.freeze 5 ?_
          refine x1.back rfl trivial ?_
          refine x1.back rfl trivial ?_
          refine x.back rfl ?_ ⟨⟨f, n', c + 1, xs ++ [x'], by omega, p2, by omega, by rw [List.length_append]; simp only [List.length_cons, List.length_nil]; omega, same⟩, by show f < f + 1; omega, ⟨⟨rfl, rfl⟩, ⟨rfl, rfl⟩, ⟨rfl, rfl⟩, trivial⟩, ⟨⟨rfl, veq0_d rfl, rfl, rfl, trivial⟩, ⟨rfl, trivial, rfl, trivial⟩, ⟨rfl, rfl, rfl, trivial⟩, ⟨rfl, rfl, by simp, fun j hj => app_gen dIns 9 (fun _ => rfl) (ins0 0) xs x' j hj⟩, trivial⟩, rfl⟩
          simp only [AllP, big]; omega
      · have b : ((!decide ((txV s l m).data.toList = [125])) && !begB s l m) = false := b
        have b : (txV s l m).data.toList = [125] ∨ begB s l m = true := by
          refine Classical.byContradiction fun hh => ?_
          simp only [not_or] at hh
          rw [decide_eq_false hh.1, (by simpa using hh.2 : begB s l m = false)] at b
          cases b
        rw [if_pos b] at same
        refine x.exit rfl trivial ?_
        rw [← same]
        exact ⟨.inr rfl, ⟨rfl, rfl, rfl, trivial⟩, ⟨⟨rfl, veq0_d rfl, rfl, rfl, trivial⟩, ⟨rfl, rfl, rfl, fun _ _ => rfl⟩, trivial⟩, rfl⟩
    · rw [if_neg e2] at h2
      refine x.die [0] rfl trivial rfl h2 ⟨⟨rfl, rfl⟩, rfl, trivial⟩ rfl ⟨⟨rfl, veq0_d rfl, rfl, rfl, trivial⟩, trivial⟩ ?_
      simp only [blockV, nmV, needV, bnd, e1, e2, if_true, if_false]
      exact ⟨rfl, rfl⟩
end
end Go.Proofs.YteeofakohenpoaaGreatDoor

/- A function, as the program reads it. -/
namespace Go.Proofs.YteeofakohenpoaaGreatDoor
open Go.Sx
set_option linter.unusedVariables false
set_option linter.unusedSimpArgs false
set_option maxRecDepth 100000

theorem code_up {s : ByteArray} {l : List Tok} : ∀ {f n c : Nat} {xs : List Ins} {n' c' : Nat} {ys : List Ins}, n ≤ l.length → c ≤ 4096 → codeF s l f n c xs = .ok (n', (c', ys)) → n ≤ n' ∧ n' ≤ l.length ∧ c' ≤ 4096
  | 0, n, c, xs, n', c', ys, hn, hc, h => by simp [codeF] at h
  | f + 1, n, c, xs, n', c', ys, hn, hc, h => by
    rw [codeF] at h
    split at h
    · simp only [Except.ok.injEq, Prod.mk.injEq] at h
      omega
    · obtain ⟨V, hV⟩ : ∃ V, instrV s l n c = V := ⟨_, rfl⟩
      rw [hV] at h
      rcases V with e | ⟨n1, x⟩
      · cases h
      · obtain ⟨p1, p2⟩ := instr_up _ _ hV
        have p3 := instr_c hV
        obtain ⟨q1, q2, q3⟩ := code_up p2 (by omega) h
        exact ⟨by omega, q2, q3⟩
theorem block_up {s : ByteArray} {l : List Tok} {n c n' c' : Nat} {b : Blk} (hc : c ≤ 4096) (h : blockV s l n c = .ok (n', (c', b))) : n < n' ∧ n' ≤ l.length ∧ c' ≤ 4096 := by
  unfold blockV at h
  obtain ⟨V, hV⟩ : ∃ V, nmV s l n = V := ⟨_, rfl⟩
  rw [hV] at h
  rcases V with e | ⟨n1, nm⟩
  · cases h
  obtain ⟨p1, p2⟩ := nm_up _ _ hV
  simp only [bnd] at h
  obtain ⟨V, hV⟩ : ∃ V, needV s l n1 58 = V := ⟨_, rfl⟩
  rw [hV] at h
  rcases V with e | ⟨n2, u⟩
  · cases h
  obtain ⟨q1, q2⟩ := need_up _ _ hV
  simp only at h
  obtain ⟨V, hV⟩ : ∃ V, codeF s l 4098 n2 c [] = V := ⟨_, rfl⟩
  rw [hV] at h
  rcases V with e | ⟨n3, c3, ys⟩
  · cases h
  obtain ⟨r1, r2, r3⟩ := code_up q2 hc hV
  simp only [Except.ok.injEq, Prod.mk.injEq] at h
  omega
abbrev dCode (xs : List Ins) : D := .sl 9 xs.length fun i => dIns (xs.getD i (ins0 0))
abbrev dBlk (b : Blk) : List D := [.str b.name, dCode b.code, .int .i64 b.at_]
def blk0 : Blk := ⟨.empty, [], 0⟩
abbrev blksC (bs : List Blk) : Ch := .vec 32 3 bs.length fun i => dBlk (bs.getD i blk0)
def blocksF (s : ByteArray) (l : List Tok) : Nat → Nat → Nat → List Blk → Except (Int × Int) (Nat × (Nat × List Blk))
  | 0, _, _, _ => .error (0, 0)
  | f + 1, n, c, bs =>
    if begB s l n = true then
      if 64 ≤ bs.length then .error (atV s l n, 3)
      else bnd (blockV s l n c) fun n r => blocksF s l f n r.1 (bs ++ [r.2])
    else .ok (n, (c, bs))
structure Fun where
  name : ByteArray
  params : List ByteArray
  blocks : List Blk
  at_ : Int
def funcV (s : ByteArray) (l : List Tok) (n c : Nat) : Except (Int × Int) (Nat × (Nat × Fun)) :=
  bnd (nmV s l (n + 1)) fun n1 nm => bnd (namesV s l n1) fun n2 ps => bnd (needV s l n2 123) fun n3 _ => bnd (blockV s l n3 c) fun n4 r =>
    bnd (blocksF s l 65 n4 r.1 [r.2]) fun n5 q => bnd (needV s l n5 125) fun n6 _ => .ok (n6, (q.1, ⟨nm, ps, q.2, atV s l n⟩))
def funcO (s : ByteArray) (l : List Tok) : Except (Int × Int) (Nat × (Nat × Fun)) → Out
  | .ok (n, (c, b)) => .ret (.agg [vs b.name, .own 1, .own 2, vi b.at_]) [pC s l n c, strC b.params, blksC b.blocks]
  | .error (a, e) => dieO a e
end Go.Proofs.YteeofakohenpoaaGreatDoor

/- A function, as the program reads it: the walk. -/
namespace Go.Proofs.YteeofakohenpoaaGreatDoor
open Go.Sx
set_option linter.unusedVariables false
set_option linter.unusedSimpArgs false
set_option maxRecDepth 100000

structure FW (s : ByteArray) (l : List Tok) (R : Except (Int × Int) (Nat × (Nat × List Blk))) where
  f : Nat
  n : Nat
  c : Nat
  bs : List Blk
  hf : f + bs.length = 66
  hb : bs.length ≤ 64
  hn : n ≤ l.length
  hc : c ≤ 4096
  same : blocksF s l f n c bs = R
section
variable (s : ByteArray) (l : List Tok) (n c : Nat) (hl : Lies s l) (hn : n < l.length) (hc : c ≤ 4096)
set_option maxHeartbeats 1000000 in
include hl hn hc in
theorem function7_spec : ProcO PG 47 1 [.ptr 0 0] [pC s l n c] (funcO s l (funcV s l n c)) := by
  have hll := hl.2.1
  have ei : VEq0 (vi ((n : Int) + 1)) (vi ((n + 1 : Nat) : Int)) := by rw [Int.natCast_add]; rfl
  refine ProcO.mk (cfgF 46 1) tysOK [0, 3, 4] Tryz.func47 rfl (by kernel_rfl) rfl rfl (by rcases funcV s l n c with ⟨a, e⟩ | ⟨n', c', o⟩ <;> rfl) ?_
  intro C x
  refine x.call [0] rfl trivial rfl (at_spec s l n c (by omega)) rfl ⟨⟨rfl, rfl⟩, trivial⟩ ⟨⟨rfl, veq0_d rfl, rfl, rfl, trivial⟩, trivial⟩ ?_
  have h1 := name7_spec s l (n + 1) c hl (by omega)
  cases e1 : isV l (n + 1) 1 with
  | false =>
    rw [e1, if_neg (by simp)] at h1
    refine x.die [0] rfl (by simp only [AllP, inI64]; omega) rfl h1 ⟨⟨rfl, rfl⟩, trivial⟩ rfl ⟨⟨rfl, veq0_d rfl, ei, rfl, trivial⟩, trivial⟩ ?_
    simp only [funcV, nmV, bnd, e1, if_true, Bool.false_eq_true, if_false]
    exact ⟨rfl, rfl⟩
  | true =>
  rw [e1, if_pos rfl] at h1
  have l1 := isV_lt e1
  refine x.call [0] rfl (by simp only [AllP, inI64]; omega) rfl h1 rfl ⟨⟨rfl, rfl⟩, trivial⟩ ⟨⟨rfl, veq0_d rfl, ei, rfl, trivial⟩, trivial⟩ ?_
  have h2 := names7_spec s l (n + 1 + 1) c hl (by omega)
  obtain ⟨N, hN⟩ : ∃ N, namesV s l (n + 1 + 1) = N := ⟨_, rfl⟩
  rw [hN] at h2
  rcases N with ⟨a, e⟩ | ⟨n2, ps⟩
  · refine x.die [0] rfl trivial rfl h2 ⟨⟨rfl, rfl⟩, trivial⟩ rfl ⟨⟨rfl, veq0_d rfl, rfl, rfl, trivial⟩, trivial⟩ ?_
    simp only [funcV, nmV, bnd, e1, if_true, hN]
    exact ⟨rfl, rfl⟩
  obtain ⟨q1, q2⟩ := names_up _ _ hN
  refine x.call [0] rfl trivial rfl h2 rfl ⟨⟨rfl, rfl⟩, trivial⟩ ⟨⟨rfl, veq0_d rfl, rfl, rfl, trivial⟩, trivial⟩ ?_
  have h3 := need_spec s l n2 c hl (by omega) ⟨#[123]⟩
  by_cases e3 : (txV s l n2).data.toList = [123]
  rotate_left
  · rw [if_neg e3] at h3
    refine x.die [0] rfl trivial rfl h3 ⟨⟨rfl, rfl⟩, rfl, trivial⟩ rfl ⟨⟨rfl, veq0_d rfl, rfl, rfl, trivial⟩, trivial⟩ ?_
    simp only [funcV, nmV, needV, bnd, e1, e3, if_true, if_false, hN]
    exact ⟨rfl, rfl⟩
  rw [if_pos e3] at h3
  have l3 := tx_lt e3
  refine x.call [0] rfl trivial rfl h3 rfl ⟨⟨rfl, rfl⟩, rfl, trivial⟩ ⟨⟨rfl, veq0_d rfl, rfl, rfl, trivial⟩, trivial⟩ ?_
  refine x.code rfl trivial ?_
  refine Go.ownB 2 2 32 3 (fun i => dBlk (([] : List Blk).getD i blk0)) rfl rfl ?_
  have h4 := block7_spec s l (n2 + 1) c hl (by omega) hc
  obtain ⟨B, hB⟩ : ∃ B, blockV s l (n2 + 1) c = B := ⟨_, rfl⟩
  rw [hB] at h4
  rcases B with ⟨a, e⟩ | ⟨n4, c4, b4⟩
  · refine x.draw [0] [2] [0, 1] [3, 4] [5, 6, 7] rfl trivial mixedP (by kernel_rfl) RetO.quiet rfl trivial (fun C1 x1 => ?_)
    refine x1.die [0] rfl trivial rfl h4 ⟨⟨rfl, rfl⟩, trivial⟩ rfl ⟨⟨rfl, veq0_d rfl, rfl, rfl, trivial⟩, trivial⟩ ⟨⟨_, rfl⟩, rfl, ?_⟩
    simp only [funcV, nmV, needV, bnd, e1, e3, if_true, hN, hB]
    exact ⟨rfl, rfl⟩
  obtain ⟨r1, r2, r3⟩ := block_up hc hB
  refine x.draw [0] [2] [0, 1] [3, 4] [5, 6, 7] rfl trivial mixedP (by kernel_rfl) RetO.quiet rfl trivial (fun C1 x1 => ?_)
  refine x1.call [0] rfl trivial rfl h4 rfl ⟨⟨rfl, rfl⟩, trivial⟩ ⟨⟨rfl, veq0_d rfl, rfl, rfl, trivial⟩, trivial⟩ ?_
  refine Sx.Go.freeze 5 ?_
  refine x1.back rfl trivial ?_
  refine x1.back rfl trivial ?_
  obtain ⟨R, hR⟩ : ∃ R, blocksF s l 65 n4 c4 [b4] = R := ⟨_, rfl⟩
  have hV : funcV s l n c = bnd R fun n5 q => bnd (needV s l n5 125) fun n6 _ => .ok (n6, (q.1, ⟨txV s l (n + 1), ps, q.2, atV s l n⟩)) := by
    simp only [funcV, nmV, needV, bnd, e1, e3, if_true, hN, hB, hR]
  rw [hV]
  refine x.loop (α := FW s l R) (fun y => ⟨[(0, .ptr 0 0), (2, .ptr 1 0), (3, .ptr 2 0)], [(0, pC s l y.n y.c), (1, .box [vs .empty, .nils, .nils, vi 0]), (2, .box [vs (txV s l (n + 1)), .own 3, .own 4, vi (atV s l n)]), (3, strC ps), (4, blksC y.bs)], 5⟩) (fun y => y.f) ⟨65, n4, c4, [b4], rfl, by simp, r2, r3, hR⟩ rfl (by simp only [AllP, big, List.length_cons, List.length_nil]; omega) ⟨⟨⟨rfl, rfl⟩, ⟨rfl, rfl⟩, ⟨rfl, rfl⟩, trivial⟩, ⟨⟨rfl, veq0_d rfl, rfl, rfl, trivial⟩, ⟨rfl, trivial, trivial, rfl, trivial⟩, ⟨rfl, rfl, rfl, rfl, trivial⟩, ⟨rfl, rfl, rfl, fun _ _ => rfl⟩, ⟨rfl, rfl, rfl, fun j hj => app_gen dBlk 3 (fun _ => rfl) blk0 [] b4 j hj⟩, trivial⟩, rfl⟩ (fun y => ?_)
  obtain ⟨f, m, c, bs, hf, hb, hm, hc, same⟩ := y
  change Go C _ ⟨[(0, .ptr 0 0), (2, .ptr 1 0), (3, .ptr 2 0)], [(0, pC s l m c), (1, .box [vs .empty, .nils, .nils, vi 0]), (2, .box [vs (txV s l (n + 1)), .own 3, .own 4, vi (atV s l n)]), (3, strC ps), (4, blksC bs)], 5⟩ _
  obtain ⟨f, rfl⟩ : ∃ f', f = f' + 1 := ⟨f - 1, by omega⟩
  rw [blocksF] at same
  refine x.call [0] rfl trivial rfl (begins_spec s l m c hl (by omega)) rfl ⟨⟨rfl, rfl⟩, trivial⟩ ⟨⟨rfl, veq0_d rfl, rfl, rfl, trivial⟩, trivial⟩ ?_
  refine x.cond rfl trivial (fun b => ?_) (fun b => ?_)
  · have b : begB s l m = true := b
    rw [if_pos b] at same
    have h5 := room_spec s l m c (by omega) (bs.length : Int) 64
    by_cases h6 : 64 ≤ bs.length
    · rw [if_pos (by omega)] at h5
      rw [if_pos h6] at same
      refine x.die [0] rfl trivial rfl h5 ⟨⟨rfl, rfl⟩, rfl, rfl, trivial⟩ rfl ⟨⟨rfl, veq0_d rfl, rfl, rfl, trivial⟩, trivial⟩ ?_
      rw [← same]
      exact ⟨rfl, rfl⟩
    rw [if_neg (by omega)] at h5
    rw [if_neg h6] at same
    refine x.call [0] rfl trivial rfl h5 rfl ⟨⟨rfl, rfl⟩, rfl, rfl, trivial⟩ ⟨⟨rfl, veq0_d rfl, rfl, rfl, trivial⟩, trivial⟩ ?_
    have h7 := block7_spec s l m c hl hm hc
    obtain ⟨V, hW⟩ : ∃ V, blockV s l m c = V := ⟨_, rfl⟩
    rw [hW] at h7 same
    rcases V with ⟨a, e⟩ | ⟨n', c', b'⟩
    · refine x.draw [0] [2] [0, 1] [3, 4] [5, 6, 7] rfl trivial mixedP (by kernel_rfl) RetO.quiet rfl trivial (fun C1 x1 => ?_)
      refine x1.die [0] rfl trivial rfl h7 ⟨⟨rfl, rfl⟩, trivial⟩ rfl ⟨⟨rfl, veq0_d rfl, rfl, rfl, trivial⟩, trivial⟩ ⟨⟨_, rfl⟩, rfl, ?_⟩
      rw [← same]
      exact ⟨rfl, rfl⟩
    · obtain ⟨p1, p2, p3⟩ := block_up hc hW
      simp only [bnd] at same
      refine x.draw [0] [2] [0, 1] [3, 4] [5, 6, 7] rfl trivial mixedP (by kernel_rfl) RetO.quiet rfl trivial (fun C1 x1 => ?_)
      refine x1.call [0] rfl trivial rfl h7 rfl ⟨⟨rfl, rfl⟩, trivial⟩ ⟨⟨rfl, veq0_d rfl, rfl, rfl, trivial⟩, trivial⟩ ?_
      refine Sx.Go.freeze 5 ?_
      refine x1.back rfl trivial ?_
      refine x1.back rfl trivial ?_
      refine x.back rfl (by simp only [AllP, big, List.length_cons, List.length_nil]; omega) ⟨⟨f, n', c', bs ++ [b'], by rw [List.length_append]; simp only [List.length_cons, List.length_nil]; omega, by rw [List.length_append]; simp only [List.length_cons, List.length_nil]; omega, p2, p3, same⟩, by show f < f + 1; omega, ⟨⟨rfl, rfl⟩, ⟨rfl, rfl⟩, ⟨rfl, rfl⟩, trivial⟩, ⟨⟨rfl, veq0_d rfl, rfl, rfl, trivial⟩, ⟨rfl, trivial, trivial, rfl, trivial⟩, ⟨rfl, rfl, rfl, rfl, trivial⟩, ⟨rfl, rfl, rfl, fun _ _ => rfl⟩, ⟨rfl, rfl, by simp, fun j hj => app_gen dBlk 3 (fun _ => rfl) blk0 bs b' j hj⟩, trivial⟩, rfl⟩
  · have b : begB s l m = false := b
    rw [b, if_neg (by simp)] at same
    have h8 := need_spec s l m c hl (by omega) ⟨#[125]⟩
    by_cases e8 : (txV s l m).data.toList = [125]
    · rw [if_pos e8] at h8
      refine x.call [0] rfl trivial rfl h8 rfl ⟨⟨rfl, rfl⟩, rfl, trivial⟩ ⟨⟨rfl, veq0_d rfl, rfl, rfl, trivial⟩, trivial⟩ ?_
      refine x.exit rfl trivial ?_
      rw [← same, bnd, needV, if_pos e8]
      exact ⟨.inr rfl, ⟨rfl, rfl, rfl, rfl, trivial⟩, ⟨⟨rfl, veq0_d rfl, rfl, rfl, trivial⟩, ⟨rfl, rfl, rfl, fun _ _ => rfl⟩, ⟨rfl, rfl, rfl, fun _ _ => rfl⟩, trivial⟩, rfl⟩
    · rw [if_neg e8] at h8
      refine x.die [0] rfl trivial rfl h8 ⟨⟨rfl, rfl⟩, rfl, trivial⟩ rfl ⟨⟨rfl, veq0_d rfl, rfl, rfl, trivial⟩, trivial⟩ ?_
      rw [← same, bnd, needV, if_neg e8]
      exact ⟨rfl, rfl⟩
end
end Go.Proofs.YteeofakohenpoaaGreatDoor

/- What the program's Parse defers: it recovers from the parser's own panic, and from none else. -/
namespace Go.Proofs.YteeofakohenpoaaGreatDoor
open Go.Sx
set_option linter.unusedVariables false
set_option linter.unusedSimpArgs false
set_option maxRecDepth 100000

theorem parse1_pan (f1 f2 : Nat → List D) (a e : Int) : Later PG 43 [.ptr 0 0, .ptr 1 0, .ptr 2 0] [.box [.dead, .dead], .box [.dead], .box [.dead]] (.pan stopT [(.i64, a), (.i64, e)]) [.box [.d (.sl 4 0 f1), .d (.sl 4 0 f2)], .box [vi a], .box [vi e]] := by
  refine Later.mk (cfgF 22 3) tysOK [0, 1, 2] Tryz.func43 rfl (by kernel_rfl) rfl rfl rfl rfl rfl rfl rfl rfl rfl rfl ?_
  intro C x
  refine x.cond rfl trivial (fun h => ?_) (fun h => ?_)
  rotate_left
  · cases h
  refine x.cond rfl trivial (fun h => ?_) (fun h => ?_)
  · cases h
  refine x.draw [0, 1] [] [0, 1, 2, 3, 4] [5, 6] [7] rfl trivial mixedP (by kernel_rfl) (NoPanic.quiet Ret.noPanic) rfl trivial (fun C1 x1 => ?_)
  refine x1.back rfl trivial ?_
  refine x1.back rfl trivial ?_
  refine x.exit rfl trivial ?_
  exact ⟨.inl rfl, trivial, ⟨⟨rfl, rfl, trivial⟩, ⟨rfl, trivial⟩, ⟨rfl, trivial⟩, trivial⟩, rfl⟩
theorem parse1_back (z1 n1 z2 n2 : Nat) (f1 f2 : Nat → List D) (a e : Int) : Later PG 43 [.ptr 0 0, .ptr 1 0, .ptr 2 0] [.box [.d (.sl z1 n1 f1), .d (.sl z2 n2 f2)], .box [vi a], .box [vi e]] .back [.box [.d (.sl z1 n1 f1), .d (.sl z2 n2 f2)], .box [vi a], .box [vi e]] := by
  refine Later.mk (cfgF 22 3) tysOK [0, 1, 2] Tryz.func43 rfl (by kernel_rfl) rfl rfl rfl rfl rfl rfl rfl rfl rfl rfl ?_
  intro C x
  refine x.cond rfl trivial (fun h => ?_) (fun h => ?_)
  · cases h
  refine x.exit rfl trivial ?_
  exact ⟨.inl rfl, trivial, ⟨⟨veq0_d rfl, veq0_d rfl, trivial⟩, ⟨rfl, trivial⟩, ⟨rfl, trivial⟩, trivial⟩, rfl⟩
end Go.Proofs.YteeofakohenpoaaGreatDoor

/- The program's Parse: the walk. -/
namespace Go.Proofs.YteeofakohenpoaaGreatDoor
open Go.Sx
set_option linter.unusedVariables false
set_option linter.unusedSimpArgs false
set_option maxRecDepth 100000

abbrev dBlks (bs : List Blk) : D := .sl 3 bs.length fun i => dBlk (bs.getD i blk0)
abbrev dFun (f : Fun) : List D := [.str f.name, dStrs f.params, dBlks f.blocks, .int .i64 f.at_]
abbrev dArr (a : Arr) : List D := [.str a.name, .int .i64 a.size, .str a.level, .int .i64 a.at_]
def fun0 : Fun := ⟨.empty, [], [], 0⟩
def arr0 : Arr := ⟨.empty, 0, .empty, 0⟩
abbrev funsC (fs : List Fun) : Ch := .vec 29 4 fs.length fun i => dFun (fs.getD i fun0)
abbrev arrsC (xs : List Arr) : Ch := .vec 56 4 xs.length fun i => dArr (xs.getD i arr0)
abbrev dFuns (fs : List Fun) : D := .sl 4 fs.length fun i => dFun (fs.getD i fun0)
abbrev dArrs (xs : List Arr) : D := .sl 4 xs.length fun i => dArr (xs.getD i arr0)
/-- A program. -/
abbrev xD (x : Ins) : V := .agg [.d (.int .u8 x.kind), .d (.int .u8 x.op), vs x.dst, vs x.ref, vs x.alt, .d (dStrs x.args), .d (dStrs x.frm), vi x.num, vi x.at_]
abbrev fnV (f : Fun) : V := .agg [vs f.name, .d (dStrs f.params), .d (dBlks f.blocks), vi f.at_]
structure Prg where
  arrays : List Arr
  funcs : List Fun
abbrev prgV (p : Prg) : V := .agg [.d (dArrs p.arrays), .d (dFuns p.funcs)]
def progF (s : ByteArray) (l : List Tok) : Nat → Nat → Nat → Prg → Except (Int × Int) (Nat × Prg)
  | 0, _, _, _ => .error (0, 0)
  | f + 1, n, c, p =>
    if n < l.length then
      if (txV s l n).data.toList = [97, 114, 114, 97, 121] then
        if 16 ≤ p.arrays.length then .error (atV s l n, 3)
        else bnd (arrV s l n) fun n x => progF s l f n c ⟨p.arrays ++ [x], p.funcs⟩
      else if (txV s l n).data.toList = [102, 110] then
        if 64 ≤ p.funcs.length then .error (atV s l n, 3)
        else bnd (funcV s l n c) fun n r => progF s l f n r.1 ⟨p.arrays, p.funcs ++ [r.2]⟩
      else .error (atV s l n, 7)
    else .ok (n, p)
def progO : Except (Int × Int) (Nat × Prg) → Prg × Int × Int
  | .ok (_, p) => (p, 0, 0)
  | .error (a, e) => (⟨[], []⟩, a, e)
def parseV (s : ByteArray) : Prg × Int × Int :=
  if (allV s).2.2 = 0 then progO (progF s (allV s).1 ((allV s).1.length + 1) 0 0 ⟨[], []⟩) else (⟨[], []⟩, (allV s).2.1, (allV s).2.2)
theorem nm_up' {s : ByteArray} {l : List Tok} {n n' : Nat} {x : ByteArray} (h : nmV s l n = .ok (n', x)) : n < n' ∧ n' ≤ l.length := nm_up _ _ h
theorem arr_up {s : ByteArray} {l : List Tok} {n n' : Nat} {x : Arr} (h : arrV s l n = .ok (n', x)) : n < n' ∧ n' ≤ l.length := by
  unfold arrV at h
  obtain ⟨V, hV⟩ : ∃ V, nmV s l (n + 1) = V := ⟨_, rfl⟩
  rw [hV] at h
  rcases V with e | ⟨n1, nm⟩
  · cases h
  obtain ⟨p1, p2⟩ := nm_up _ _ hV
  simp only [bnd] at h
  split at h
  · rename_i h3
    have l3 := isV_lt h3
    split at h
    · cases h
    · obtain ⟨V, hV⟩ : ∃ V, nmV s l (n1 + 1) = V := ⟨_, rfl⟩
      rw [hV] at h
      rcases V with e | ⟨n2, lv⟩
      · cases h
      obtain ⟨q1, q2⟩ := nm_up _ _ hV
      simp only [Except.ok.injEq, Prod.mk.injEq] at h
      omega
  · cases h
theorem blocks_up {s : ByteArray} {l : List Tok} : ∀ {f n c : Nat} {bs : List Blk} {n' c' : Nat} {ys : List Blk}, n ≤ l.length → c ≤ 4096 → blocksF s l f n c bs = .ok (n', (c', ys)) → n ≤ n' ∧ n' ≤ l.length ∧ c' ≤ 4096
  | 0, n, c, bs, n', c', ys, hn, hc, h => by simp [blocksF] at h
  | f + 1, n, c, bs, n', c', ys, hn, hc, h => by
    rw [blocksF] at h
    split at h
    · split at h
      · cases h
      · obtain ⟨V, hV⟩ : ∃ V, blockV s l n c = V := ⟨_, rfl⟩
        rw [hV] at h
        rcases V with e | ⟨n1, c1, b⟩
        · cases h
        · obtain ⟨p1, p2, p3⟩ := block_up hc hV
          obtain ⟨q1, q2, q3⟩ := blocks_up p2 p3 h
          exact ⟨by omega, q2, q3⟩
    · simp only [Except.ok.injEq, Prod.mk.injEq] at h
      omega
theorem func_up {s : ByteArray} {l : List Tok} {n c n' c' : Nat} {x : Fun} (hc : c ≤ 4096) (h : funcV s l n c = .ok (n', (c', x))) : n < n' ∧ n' ≤ l.length ∧ c' ≤ 4096 := by
  unfold funcV at h
  obtain ⟨V, hV⟩ : ∃ V, nmV s l (n + 1) = V := ⟨_, rfl⟩
  rw [hV] at h
  rcases V with e | ⟨n1, nm⟩
  · cases h
  obtain ⟨p1, p2⟩ := nm_up _ _ hV
  simp only [bnd] at h
  obtain ⟨V, hV⟩ : ∃ V, namesV s l n1 = V := ⟨_, rfl⟩
  rw [hV] at h
  rcases V with e | ⟨n2, ps⟩
  · cases h
  obtain ⟨q1, q2⟩ := names_up _ _ hV
  simp only at h
  obtain ⟨V, hV⟩ : ∃ V, needV s l n2 123 = V := ⟨_, rfl⟩
  rw [hV] at h
  rcases V with e | ⟨n3, u⟩
  · cases h
  obtain ⟨r1, r2⟩ := need_up _ _ hV
  simp only at h
  obtain ⟨V, hV⟩ : ∃ V, blockV s l n3 c = V := ⟨_, rfl⟩
  rw [hV] at h
  rcases V with e | ⟨n4, c4, b⟩
  · cases h
  obtain ⟨t1, t2, t3⟩ := block_up hc hV
  simp only at h
  obtain ⟨V, hV⟩ : ∃ V, blocksF s l 65 n4 c4 [b] = V := ⟨_, rfl⟩
  rw [hV] at h
  rcases V with e | ⟨n5, c5, bs⟩
  · cases h
  obtain ⟨u1, u2, u3⟩ := blocks_up t2 t3 hV
  simp only at h
  obtain ⟨V, hV⟩ : ∃ V, needV s l n5 125 = V := ⟨_, rfl⟩
  rw [hV] at h
  rcases V with e | ⟨n6, u⟩
  · cases h
  obtain ⟨w1, w2⟩ := need_up _ _ hV
  simp only [Except.ok.injEq, Prod.mk.injEq] at h
  omega
theorem toks_lie (s : ByteArray) : ∀ (n a : Nat) (out : List Tok), a ≤ s.size → (∀ t, t ∈ out → 0 ≤ t.f ∧ t.f < t.t ∧ t.t ≤ s.size) → ∀ t, t ∈ (toksF s n a out).1 → 0 ≤ t.f ∧ t.f < t.t ∧ t.t ≤ s.size
  | 0, a, out, _, _ => by simp [toksF]
  | n + 1, a, out, ha, ho => by
    rw [toksF]
    split
    · exact ho
    · split
      · rename_i h0
        have hf := one_facts ha
        have hb : (a : Int) ≤ (oneN s a).1.f ∧ (oneN s a).1.f < (oneN s a).1.t ∧ (oneN s a).1.t ≤ s.size := by
          rcases hf with h | h | h
          · exact h.2
          · omega
          · omega
        refine toks_lie s n _ _ (by omega) fun t ht => ?_
        rcases List.mem_append.1 ht with ht | ht
        · exact ho t ht
        · obtain rfl := List.mem_singleton.1 ht
          omega
      · simp
theorem all_lies (s : ByteArray) (hs : s.size ≤ 65536) : Lies s (allV s).1 := by
  have hl := all_len s
  refine ⟨fun t ht => ?_, by omega, by omega⟩
  unfold allV at ht
  rw [if_neg (by omega)] at ht
  split at ht
  · simp at ht
  · exact toks_lie s _ 0 [] (by omega) (by simp) t ht
theorem all_small {s : ByteArray} (h : (allV s).2.2 = 0) : s.size ≤ 65536 := by
  rcases Nat.lt_or_ge 65536 s.size with h1 | h1
  · rw [allV, if_pos h1] at h; cases h
  · exact h1

theorem closeV_bnd {α : Type} {s : ByteArray} {l : List Tok} {b : UInt8} {V : Except (Int × Int) (Nat × α)} : closeV s l b V = bnd V fun n o => bnd (needV s l n b) fun n _ => .ok (n, o) := by
  rcases V with e | ⟨n, o⟩
  · rfl
  · simp only [closeV, bnd, needV]
    split <;> rfl
structure PLW (s : ByteArray) (l : List Tok) (R : Except (Int × Int) (Nat × Prg)) where
  f : Nat
  n : Nat
  c : Nat
  p : Prg
  hf : l.length + 1 ≤ f + n
  hn : n ≤ l.length
  hc : c ≤ 4096
  ha : p.arrays.length ≤ 16
  hp : p.funcs.length ≤ 64
  same : progF s l f n c p = R
/-- What Parse hands back, by its model. -/
abbrev parseR (R : Prg × Int × Int) : V := .tup [prgV R.1, vi R.2.1, vi R.2.2]
set_option maxHeartbeats 4000000 in
theorem parse7_spec (s : ByteArray) (hs : s.size ≤ 4611686018427387904) : Pure PG 28 [vs s] (parseR (parseV s)) [] := by
  refine Proc.mkDefer (cfg 63) tysOK [] 3 [2, 3, 4] Tryz.func28 rfl rfl (by kernel_rfl) rfl rfl rfl ?_
  intro C x
  refine x.pure rfl trivial rfl (all_spec s hs) ⟨rfl, trivial⟩ ?_
  refine x.cond rfl trivial (fun h => ?_) (fun h => ?_)
  · have h : (!decide ((allV s).2.2 = 0)) = true := h
    have h : ¬ (allV s).2.2 = 0 := by simpa using h
    rw [parseV, if_neg h]
    refine x.every (.fork 0 (.fork 1 (.fork 2 (.fork 3 (.fork 4 (.fork 5 .leaf .no) .no) .no) (.fork 3 (.fork 2 (.fork 4 (.fork 5 .leaf .no) .no) (.fork 4 (.fork 2 (.fork 5 .leaf .no) .no) .no)) .no)) (.fork 2 (.fork 1 (.fork 3 (.fork 4 (.fork 5 .leaf .no) .no) .no) (.fork 3 (.fork 1 (.fork 4 (.fork 5 .leaf .no) .no) .no) .no)) (.fork 3 (.fork 1 (.fork 2 (.fork 4 (.fork 5 .leaf .no) .no) (.fork 4 (.fork 2 (.fork 5 .leaf .no) .no) .no)) (.fork 2 (.fork 1 (.fork 4 (.fork 5 .leaf .no) .no) .no) .no)) .no))) (.fork 1 (.fork 0 (.fork 2 (.fork 3 (.fork 4 (.fork 5 .leaf .no) .no) .no) (.fork 3 (.fork 2 (.fork 4 (.fork 5 .leaf .no) .no) (.fork 4 (.fork 2 (.fork 5 .leaf .no) .no) .no)) .no)) (.fork 2 (.fork 0 (.fork 3 (.fork 4 (.fork 5 .leaf .no) .no) .no) .no) .no)) (.fork 2 (.fork 0 (.fork 1 (.fork 3 (.fork 4 (.fork 5 .leaf .no) .no) .no) (.fork 3 (.fork 1 (.fork 4 (.fork 5 .leaf .no) .no) .no) .no)) (.fork 1 (.fork 0 (.fork 3 (.fork 4 (.fork 5 .leaf .no) .no) .no) .no) .no)) .no))) ⟨[(2, .ptr 0 0), (3, .ptr 1 0), (4, .ptr 2 0)], [(0, .box [.nils, .nils]), (1, .box [vi (allV s).2.1]), (2, .box [vi (allV s).2.2])], 3⟩ rfl trivial mixedP (by kernel_rfl) ?_ ?_
    · repeat' (first | exact trivial | exact ⟨⟨⟨rfl, rfl⟩, ⟨rfl, rfl⟩, ⟨rfl, rfl⟩, trivial⟩, ⟨⟨trivial, trivial, trivial⟩, ⟨rfl, trivial⟩, ⟨rfl, trivial⟩, trivial⟩, rfl⟩ | refine ⟨?_, ?_⟩ | refine x.back rfl trivial ?_)
    refine Go.ownB 0 0 56 4 (fun i => dArr (([] : List Arr).getD i arr0)) rfl rfl ?_
    refine Go.ownB 0 1 29 4 (fun i => dFun (([] : List Fun).getD i fun0)) rfl rfl ?_
    refine Sx.Go.freeze 3 ?_
    refine Sx.Go.freeze 4 ?_
    refine x.exit rfl trivial ?_
    exact ⟨.inr rfl, ⟨rfl, rfl, rfl, trivial⟩, trivial, rfl⟩
  have h : (!decide ((allV s).2.2 = 0)) = false := h
  have h0 : (allV s).2.2 = 0 := by simpa using h
  have hsm := all_small h0
  have hl := all_lies s hsm
  rw [parseV, if_pos h0]
  obtain ⟨l, hL⟩ : ∃ l, (allV s).1 = l := ⟨_, rfl⟩
  rw [hL] at hl ⊢
  have hll := hl.2.1
  refine x.back rfl trivial ?_
  refine x.back rfl trivial ?_
  refine ⟨_, _, 3, rfl, rfl, ⟨_, Tryz.func43, rfl, by kernel_rfl⟩, fun C1 x1 => ?_⟩
  clear x
  obtain ⟨a0, ha0⟩ : ∃ a, (allV s).2.1 = a := ⟨_, rfl⟩
  obtain ⟨e0, he0⟩ : ∃ e, (allV s).2.2 = e := ⟨_, rfl⟩
  rw [ha0, he0]
  obtain ⟨R, hR⟩ : ∃ R, progF s l (l.length + 1) 0 0 ⟨[], []⟩ = R := ⟨_, rfl⟩
  rw [hR]
  refine x1.toLoop rfl trivial ?_
  refine Go.ownB 0 0 56 4 (fun i => dArr (([] : List Arr).getD i arr0)) rfl rfl ?_
  refine Go.ownB 0 1 29 4 (fun i => dFun (([] : List Fun).getD i fun0)) rfl rfl ?_
  refine x1.loop (α := PLW s l R) (fun y => ⟨[(2, .ptr 0 0), (3, .ptr 1 0), (4, .ptr 2 0), (5, tv l), (6, .ptr 3 0)], [(0, .box [.own 4, .own 5]), (1, .box [vi a0]), (2, .box [vi e0]), (3, pC s l y.n y.c), (4, arrsC y.p.arrays), (5, funsC y.p.funcs)], 6⟩) (fun y => y.f) ⟨l.length + 1, 0, 0, ⟨[], []⟩, by omega, by omega, by omega, by simp, by simp, hR⟩ rfl trivial ?_ (fun y => ?_)
  · exact ⟨⟨⟨rfl, rfl⟩, ⟨rfl, rfl⟩, ⟨rfl, rfl⟩, veq_d rfl, ⟨rfl, rfl⟩, trivial⟩, ⟨⟨rfl, rfl, trivial⟩, ⟨rfl, trivial⟩, ⟨rfl, trivial⟩, ⟨rfl, veq0_d rfl, rfl, rfl, trivial⟩, ⟨rfl, rfl, rfl, fun j hj => absurd hj (Nat.not_lt_zero _)⟩, ⟨rfl, rfl, rfl, fun j hj => absurd hj (Nat.not_lt_zero _)⟩, trivial⟩, rfl⟩
  obtain ⟨f, n, c, p, hf, hn, hc, ha, hp, same⟩ := y
  change Go C1 _ ⟨[(2, .ptr 0 0), (3, .ptr 1 0), (4, .ptr 2 0), (5, tv l), (6, .ptr 3 0)], [(0, .box [.own 4, .own 5]), (1, .box [vi a0]), (2, .box [vi e0]), (3, pC s l n c), (4, arrsC p.arrays), (5, funsC p.funcs)], 6⟩ _
  obtain ⟨f, rfl⟩ : ∃ f', f = f' + 1 := ⟨f - 1, by omega⟩
  rw [progF] at same
  refine x1.cond rfl trivial (fun b => ?_) (fun b => ?_)
  rotate_left
  · have b : decide ((n : Int) < (l.length : Int)) = false := b
    have b : ¬ n < l.length := by simpa using b
    rw [if_neg b] at same
    refine Sx.Go.freeze 4 ?_
    refine Sx.Go.freeze 5 ?_
    refine x1.exit rfl trivial ?_
    rw [← same]
    exact ⟨.back, [.ptr 0 0, .ptr 1 0, .ptr 2 0], [0, 1, 2], _, _, _, .inr rfl, fun h => (by obtain ⟨_, h⟩ := h; cases h), fun _ _ _ _ h => h, parse1_back 4 p.arrays.length 4 p.funcs.length (fun i => dArr (p.arrays.getD i arr0)) (fun i => dFun (p.funcs.getD i fun0)) 0 0, ⟨⟨rfl, rfl⟩, ⟨rfl, rfl⟩, ⟨rfl, rfl⟩, trivial⟩, rfl, ⟨⟨veq0_d rfl, veq0_d rfl, trivial⟩, ⟨rfl, trivial⟩, ⟨rfl, trivial⟩, trivial⟩, .inr rfl, ⟨rfl, rfl, rfl, trivial⟩, trivial, rfl⟩
  have b : decide ((n : Int) < (l.length : Int)) = true := b
  have b : n < l.length := by simpa using b
  rw [if_pos b] at same
  refine x1.call [3] rfl trivial rfl (text_spec s l n c hl (by omega) 0 (by omega)) rfl ⟨⟨rfl, rfl⟩, rfl, trivial⟩ ⟨⟨rfl, veq0_d rfl, rfl, rfl, trivial⟩, trivial⟩ ?_
  refine x1.cond rfl trivial (fun b2 => ?_) (fun b2 => ?_)
  · have b2 : decide ((txV s l n).data.toList = [97, 114, 114, 97, 121]) = true := b2
    have b2 : (txV s l n).data.toList = [97, 114, 114, 97, 121] := of_decide_eq_true b2
    rw [if_pos b2] at same
    have h5 := room_spec s l n c (by omega) (p.arrays.length : Int) 16
    by_cases h6 : 16 ≤ p.arrays.length
    · rw [if_pos (by omega)] at h5
      rw [if_pos h6] at same
      refine x1.dieP [2, 3, 4] [3] rfl trivial rfl h5 ⟨⟨rfl, rfl⟩, rfl, rfl, trivial⟩ rfl ⟨⟨rfl, veq0_d rfl, rfl, rfl, trivial⟩, trivial⟩ ?_
      rw [← same]
      exact ⟨.pan stopT [(.i64, _), (.i64, _)], [.ptr 0 0, .ptr 1 0, .ptr 2 0], [0, 1, 2], _, _, _, rfl, fun _ => rfl, fun _ _ _ _ h => ((h.dim 0).dim 1).dim 2, parse1_pan (fun i => dArr (([] : List Arr).getD i arr0)) (fun i => dFun (([] : List Fun).getD i fun0)) _ _, ⟨⟨rfl, rfl⟩, ⟨rfl, rfl⟩, ⟨rfl, rfl⟩, trivial⟩, rfl, ⟨⟨rfl, rfl, trivial⟩, ⟨rfl, trivial⟩, ⟨rfl, trivial⟩, trivial⟩, .inr rfl, ⟨rfl, rfl, rfl, trivial⟩, trivial, rfl⟩
    rw [if_neg (by omega)] at h5
    rw [if_neg h6] at same
    refine x1.call [3] rfl trivial rfl h5 rfl ⟨⟨rfl, rfl⟩, rfl, rfl, trivial⟩ ⟨⟨rfl, veq0_d rfl, rfl, rfl, trivial⟩, trivial⟩ ?_
    have h7 := array7_spec s l n c hl b
    obtain ⟨V, hW⟩ : ∃ V, arrV s l n = V := ⟨_, rfl⟩
    rw [hW] at h7 same
    rcases V with ⟨a, e⟩ | ⟨n', x'⟩
    · refine x1.draw [3] [2] [0, 1] [3, 4] [5, 6, 7] rfl trivial mixedP (by kernel_rfl) (RetLater.quiet (by kernel_rfl)) rfl trivial (fun C2 x2 => ?_)
      refine x2.dieP [2, 3, 4] [3] rfl trivial rfl h7 ⟨⟨rfl, rfl⟩, trivial⟩ rfl ⟨⟨rfl, veq0_d rfl, rfl, rfl, trivial⟩, trivial⟩ ⟨⟨_, rfl⟩, rfl, ?_⟩
      rw [← same]
      exact ⟨.pan stopT [(.i64, _), (.i64, _)], [.ptr 0 0, .ptr 1 0, .ptr 2 0], [0, 1, 2], _, _, _, rfl, fun _ => rfl, fun _ _ _ _ h => ((h.dim 0).dim 1).dim 2, parse1_pan (fun i => dArr (([] : List Arr).getD i arr0)) (fun i => dFun (([] : List Fun).getD i fun0)) _ _, ⟨⟨rfl, rfl⟩, ⟨rfl, rfl⟩, ⟨rfl, rfl⟩, trivial⟩, rfl, ⟨⟨rfl, rfl, trivial⟩, ⟨rfl, trivial⟩, ⟨rfl, trivial⟩, trivial⟩, .inr rfl, ⟨rfl, rfl, rfl, trivial⟩, trivial, rfl⟩
    · obtain ⟨p1, p2⟩ := arr_up hW
      simp only [bnd] at same
      refine x1.draw [3] [2] [0, 1] [3, 4] [5, 6, 7] rfl trivial mixedP (by kernel_rfl) (RetLater.quiet (by kernel_rfl)) rfl trivial (fun C2 x2 => ?_)
      refine x2.call [3] rfl trivial rfl h7 rfl ⟨⟨rfl, rfl⟩, trivial⟩ ⟨⟨rfl, veq0_d rfl, rfl, rfl, trivial⟩, trivial⟩ ?_
      refine x2.back rfl trivial ?_
      refine x2.back rfl trivial ?_
      refine x1.back rfl (by simp only [AllP, big]; omega) ⟨⟨f, n', c, ⟨p.arrays ++ [x'], p.funcs⟩, by omega, by omega, by omega, by rw [List.length_append]; simp only [List.length_cons, List.length_nil]; omega, hp, same⟩, by show f < f + 1; omega, ⟨⟨⟨rfl, rfl⟩, ⟨rfl, rfl⟩, ⟨rfl, rfl⟩, veq_d rfl, ⟨rfl, rfl⟩, trivial⟩, ⟨⟨rfl, rfl, trivial⟩, ⟨rfl, trivial⟩, ⟨rfl, trivial⟩, ⟨rfl, veq0_d rfl, rfl, rfl, trivial⟩, ⟨rfl, rfl, by simp, fun j hj => app_gen dArr 4 (fun _ => rfl) arr0 p.arrays x' j hj⟩, ⟨rfl, rfl, rfl, fun _ _ => rfl⟩, trivial⟩, rfl⟩⟩
  · have b2 : decide ((txV s l n).data.toList = [97, 114, 114, 97, 121]) = false := b2
    have b1 : ¬ (txV s l n).data.toList = [97, 114, 114, 97, 121] := of_decide_eq_false b2
    refine x1.cond rfl trivial (fun b2 => ?_) (fun b2 => ?_)
    · have b2 : decide ((txV s l n).data.toList = [102, 110]) = true := b2
      have b2 : (txV s l n).data.toList = [102, 110] := of_decide_eq_true b2
      rw [if_neg b1] at same
      rw [if_pos b2] at same
      have h5 := room_spec s l n c (by omega) (p.funcs.length : Int) 64
      by_cases h6 : 64 ≤ p.funcs.length
      · rw [if_pos (by omega)] at h5
        rw [if_pos h6] at same
        refine x1.dieP [2, 3, 4] [3] rfl trivial rfl h5 ⟨⟨rfl, rfl⟩, rfl, rfl, trivial⟩ rfl ⟨⟨rfl, veq0_d rfl, rfl, rfl, trivial⟩, trivial⟩ ?_
        rw [← same]
        exact ⟨.pan stopT [(.i64, _), (.i64, _)], [.ptr 0 0, .ptr 1 0, .ptr 2 0], [0, 1, 2], _, _, _, rfl, fun _ => rfl, fun _ _ _ _ h => ((h.dim 0).dim 1).dim 2, parse1_pan (fun i => dArr (([] : List Arr).getD i arr0)) (fun i => dFun (([] : List Fun).getD i fun0)) _ _, ⟨⟨rfl, rfl⟩, ⟨rfl, rfl⟩, ⟨rfl, rfl⟩, trivial⟩, rfl, ⟨⟨rfl, rfl, trivial⟩, ⟨rfl, trivial⟩, ⟨rfl, trivial⟩, trivial⟩, .inr rfl, ⟨rfl, rfl, rfl, trivial⟩, trivial, rfl⟩
      rw [if_neg (by omega)] at h5
      rw [if_neg h6] at same
      refine x1.call [3] rfl trivial rfl h5 rfl ⟨⟨rfl, rfl⟩, rfl, rfl, trivial⟩ ⟨⟨rfl, veq0_d rfl, rfl, rfl, trivial⟩, trivial⟩ ?_
      have h7 := function7_spec s l n c hl b hc
      obtain ⟨V, hW⟩ : ∃ V, funcV s l n c = V := ⟨_, rfl⟩
      rw [hW] at h7 same
      rcases V with ⟨a, e⟩ | ⟨n', c', x'⟩
      · refine x1.draw [3] [2] [0, 1] [3, 4] [5, 6, 7] rfl trivial mixedP (by kernel_rfl) (RetLater.quiet (by kernel_rfl)) rfl trivial (fun C2 x2 => ?_)
        refine x2.dieP [2, 3, 4] [3] rfl trivial rfl h7 ⟨⟨rfl, rfl⟩, trivial⟩ rfl ⟨⟨rfl, veq0_d rfl, rfl, rfl, trivial⟩, trivial⟩ ⟨⟨_, rfl⟩, rfl, ?_⟩
        rw [← same]
        exact ⟨.pan stopT [(.i64, _), (.i64, _)], [.ptr 0 0, .ptr 1 0, .ptr 2 0], [0, 1, 2], _, _, _, rfl, fun _ => rfl, fun _ _ _ _ h => ((h.dim 0).dim 1).dim 2, parse1_pan (fun i => dArr (([] : List Arr).getD i arr0)) (fun i => dFun (([] : List Fun).getD i fun0)) _ _, ⟨⟨rfl, rfl⟩, ⟨rfl, rfl⟩, ⟨rfl, rfl⟩, trivial⟩, rfl, ⟨⟨rfl, rfl, trivial⟩, ⟨rfl, trivial⟩, ⟨rfl, trivial⟩, trivial⟩, .inr rfl, ⟨rfl, rfl, rfl, trivial⟩, trivial, rfl⟩
      · obtain ⟨p1, p2, p3⟩ := func_up hc hW
        simp only [bnd] at same
        refine x1.draw [3] [2] [0, 1] [3, 4] [5, 6, 7] rfl trivial mixedP (by kernel_rfl) (RetLater.quiet (by kernel_rfl)) rfl trivial (fun C2 x2 => ?_)
        refine x2.call [3] rfl trivial rfl h7 rfl ⟨⟨rfl, rfl⟩, trivial⟩ ⟨⟨rfl, veq0_d rfl, rfl, rfl, trivial⟩, trivial⟩ ?_
        refine Sx.Go.freeze 6 ?_
        refine Sx.Go.freeze 7 ?_
        refine x2.back rfl trivial ?_
        refine x2.back rfl trivial ?_
        refine x1.back rfl (by simp only [AllP, big]; omega) ⟨⟨f, n', c', ⟨p.arrays, p.funcs ++ [x']⟩, by omega, by omega, by omega, ha, by rw [List.length_append]; simp only [List.length_cons, List.length_nil]; omega, same⟩, by show f < f + 1; omega, ⟨⟨⟨rfl, rfl⟩, ⟨rfl, rfl⟩, ⟨rfl, rfl⟩, veq_d rfl, ⟨rfl, rfl⟩, trivial⟩, ⟨⟨rfl, rfl, trivial⟩, ⟨rfl, trivial⟩, ⟨rfl, trivial⟩, ⟨rfl, veq0_d rfl, rfl, rfl, trivial⟩, ⟨rfl, rfl, rfl, fun _ _ => rfl⟩, ⟨rfl, rfl, by simp, fun j hj => app_gen dFun 4 (fun _ => rfl) fun0 p.funcs x' j hj⟩, trivial⟩, rfl⟩⟩
    · have b2 : decide ((txV s l n).data.toList = [102, 110]) = false := b2
      have b3 : ¬ (txV s l n).data.toList = [102, 110] := of_decide_eq_false b2
      rw [if_neg b1, if_neg b3] at same
      refine x1.dieP [2, 3, 4] [3] rfl trivial rfl (fail_spec s l n c (by omega) 7) ⟨⟨rfl, rfl⟩, rfl, trivial⟩ rfl ⟨⟨rfl, veq0_d rfl, rfl, rfl, trivial⟩, trivial⟩ ?_
      rw [← same]
      exact ⟨.pan stopT [(.i64, _), (.i64, _)], [.ptr 0 0, .ptr 1 0, .ptr 2 0], [0, 1, 2], _, _, _, rfl, fun _ => rfl, fun _ _ _ _ h => ((h.dim 0).dim 1).dim 2, parse1_pan (fun i => dArr (([] : List Arr).getD i arr0)) (fun i => dFun (([] : List Fun).getD i fun0)) _ _, ⟨⟨rfl, rfl⟩, ⟨rfl, rfl⟩, ⟨rfl, rfl⟩, trivial⟩, rfl, ⟨⟨rfl, rfl, trivial⟩, ⟨rfl, trivial⟩, ⟨rfl, trivial⟩, trivial⟩, .inr rfl, ⟨rfl, rfl, rfl, trivial⟩, trivial, rfl⟩
end Go.Proofs.YteeofakohenpoaaGreatDoor

/- Are two programs alike? The answer's functions. -/
namespace Go.Proofs.YteeofakohenpoaaGreatDoor
open Go.Sx
set_option linter.unusedVariables false
set_option linter.unusedSimpArgs false
set_option maxRecDepth 100000

/-- f at i, i + 1, .. (k of them). -/
def allF (f : Nat → Bool) : Nat → Nat → Bool
  | 0, _ => true
  | k + 1, i => f i && allF f k (i + 1)
theorem allF_iff {f : Nat → Bool} : ∀ {k i : Nat}, allF f k i = true ↔ ∀ j, i ≤ j → j < i + k → f j = true
  | 0, i => by simp only [allF, true_iff]; intro j h1 h2; omega
  | k + 1, i => by
    simp only [allF, Bool.and_eq_true, allF_iff]
    constructor
    · rintro ⟨h1, h2⟩ j h3 h4
      by_cases e : j = i
      · subst e; exact h1
      · exact h2 j (by omega) (by omega)
    · intro h
      exact ⟨h i (by omega) (by omega), fun j h3 h4 => h j (by omega) (by omega)⟩
abbrev beq (a b : ByteArray) : Bool := decide (a.data.toList = b.data.toList)
def textsB (a b : List ByteArray) : Bool := decide (a.length = b.length) && allF (fun i => beq (a.getD i .empty) (b.getD i .empty)) a.length 0
structure AW (f : Nat → Bool) (n : Nat) (R : Bool) where
  i : Nat
  hi : i ≤ n
  same : allF f (n - i) i = R
theorem AW.step {f : Nat → Bool} {n : Nat} {R : Bool} {i : Nat} (hi : i < n) (same : allF f (n - i) i = R) (h : f i = true) : allF f (n - (i + 1)) (i + 1) = R := by
  rw [show n - i = (n - (i + 1)) + 1 by omega, allF, h] at same
  simpa using same
theorem AW.stop {f : Nat → Bool} {n : Nat} {R : Bool} {i : Nat} (hi : i < n) (same : allF f (n - i) i = R) (h : f i = false) : R = false := by
  rw [show n - i = (n - (i + 1)) + 1 by omega, allF, h] at same
  simpa using same.symm
theorem AW.fin {f : Nat → Bool} {n : Nat} {R : Bool} {i : Nat} (hi : ¬ i < n) (hn : i ≤ n) (same : allF f (n - i) i = R) : R = true := by
  rw [show n - i = 0 by omega, allF] at same
  exact same.symm
abbrev bigL : Nat := 1000000000000
def sameInsB (a b : Ins) (p : Bool) : Bool :=
  decide (a.kind = b.kind) && decide (a.op = b.op) && beq a.dst b.dst && beq a.ref b.ref && beq a.alt b.alt && decide (a.num = b.num) && (!p || decide (a.at_ = b.at_)) && textsB a.args b.args && textsB a.frm b.frm
/-- Few texts in it. -/
def SmallI (x : Ins) : Prop := x.args.length ≤ bigL ∧ x.frm.length ≤ bigL
def blkAt (f : Fun) (i : Nat) : Blk := f.blocks.getD i blk0
def sameCodeB (a b : List Ins) (p : Bool) : Nat → Bool := fun i => sameInsB (a.getD i (ins0 0)) (b.getD i (ins0 0)) p
def sameBlkB (a b : Blk) (p : Bool) : Bool :=
  beq a.name b.name && (!p || decide (a.at_ = b.at_)) && decide (a.code.length = b.code.length) && allF (sameCodeB a.code b.code p) a.code.length 0
def sameFunB (a b : Fun) (p : Bool) : Bool :=
  beq a.name b.name && (!p || decide (a.at_ = b.at_)) && textsB a.params b.params && decide (a.blocks.length = b.blocks.length) && allF (fun i => sameBlkB (a.blocks.getD i blk0) (b.blocks.getD i blk0) p) a.blocks.length 0
def SmallB (b : Blk) : Prop := b.code.length ≤ bigL ∧ ∀ x, x ∈ b.code → SmallI x
def SmallF (f : Fun) : Prop := f.params.length ≤ bigL ∧ f.blocks.length ≤ bigL ∧ ∀ b, b ∈ f.blocks → SmallB b
theorem getD_mem {α : Type} {l : List α} {i : Nat} {d : α} (h : i < l.length) : l.getD i d ∈ l := by
  rw [List.getD_eq_getElem?_getD, List.getElem?_eq_getElem h]
  exact List.getElem_mem h
def sameArrB (a b : Arr) (p : Bool) : Bool := beq a.name b.name && decide (a.size = b.size) && beq a.level b.level && (!p || decide (a.at_ = b.at_))
def sameB (a b : Prg) (p : Bool) : Bool :=
  decide (a.arrays.length = b.arrays.length) && decide (a.funcs.length = b.funcs.length) && allF (fun i => sameArrB (a.arrays.getD i arr0) (b.arrays.getD i arr0) p) a.arrays.length 0 && allF (fun i => sameFunB (a.funcs.getD i fun0) (b.funcs.getD i fun0) p) a.funcs.length 0
def SmallP (p : Prg) : Prop := p.arrays.length ≤ bigL ∧ p.funcs.length ≤ bigL ∧ ∀ f, f ∈ p.funcs → SmallF f
end Go.Proofs.YteeofakohenpoaaGreatDoor

/- Programs as texts, in plain words: what may be, and what is written. -/
namespace Go.Proofs.YteeofakohenpoaaGreatDoor
open Go.Sx
set_option linter.unusedVariables false
set_option linter.unusedSimpArgs false
set_option maxRecDepth 100000

/-! ### texts joined -/
theorem join_data (xs : List ByteArray) (sep : ByteArray) : (joinB xs sep).data.toList = Lib.join (xs.map (·.data.toList)) sep.data.toList := by
  simp [joinB]
theorem joinB_nil (sep : ByteArray) : joinB [] sep = .empty := rfl
theorem joinB_one (a sep : ByteArray) : joinB [a] sep = a := ba_inj8 (by rw [join_data, List.map_cons, List.map_nil, Lib.join_one])
where ba_inj8 {a b : ByteArray} (h : a.data.toList = b.data.toList) : a = b := by rw [ba_eq a, ba_eq b, h]
theorem joinB_cons (a b : ByteArray) (l : List ByteArray) (sep : ByteArray) : joinB (a :: b :: l) sep = a ++ (sep ++ joinB (b :: l) sep) := by
  refine joinB_one.ba_inj8 ?_
  rw [join_data, app_data, app_data, join_data]
  simp only [List.map_cons, Lib.join_cons, Lib.joinTail, List.flatten_cons, List.append_assoc]
theorem joinB_snoc (sep a : ByteArray) : ∀ (l : List ByteArray), l ≠ [] → joinB (l ++ [a]) sep = joinB l sep ++ (sep ++ a)
  | [], h => absurd rfl h
  | [b], _ => by rw [List.cons_append, List.nil_append, joinB_cons, joinB_one, joinB_one]
  | b :: c :: l, _ => by
    have ih := joinB_snoc sep a (c :: l) (by simp)
    show joinB (b :: c :: (l ++ [a])) sep = _
    rw [joinB_cons, joinB_cons, show joinB (c :: (l ++ [a])) sep = joinB (c :: l) sep ++ (sep ++ a) from ih]
    exact joinB_one.ba_inj8 (by simp only [app_data, List.append_assoc])
theorem joinB_size (sep : ByteArray) (k : Nat) : ∀ (l : List ByteArray), (∀ a, a ∈ l → a.size ≤ k) → (joinB l sep).size ≤ l.length * (k + sep.size)
  | [], h => by rw [joinB_nil]; exact Nat.zero_le _
  | [b], h => by rw [joinB_one]; have := h b (by simp); simp; omega
  | b :: c :: l, h => by
    have ih := joinB_size sep k (c :: l) (fun a ha => h a (by simp [List.mem_cons] at ha ⊢; exact .inr ha))
    have hb := h b (by simp)
    rw [joinB_cons, app_size, app_size, List.length_cons, Nat.succ_mul]
    omega

/-! ### names -/
theorem nameW_size (s : ByteArray) : ∀ (n p : Nat) (c : Int), s.size ≤ p + n → 0 ≤ c → c ≤ 24 → nameW s n p c = true → s.size ≤ p + 4 * (24 - c.toNat)
  | 0, p, c, h, _, _, _ => by omega
  | n + 1, p, c, h, h0, h1, hw => by
    rw [nameW] at hw
    split at hw
    · split at hw
      · cases hw
      · split at hw
        · cases hw
        · have hd := decode_pos s p
          have := nameW_size s n (p + (Utf8.decode s p).2) (c + 1) (by omega) (by omega) (by omega) hw
          omega
    · omega
theorem name_size {s : ByteArray} (h : nameB s = true) : s.size ≤ 96 := by
  have := nameW_size s s.size 0 0 (by omega) (by omega) (by omega) h
  omega
/-- May it name something? -/
def okN (s : ByteArray) : Bool := nameB s && !wordB s
theorem okN_size {s : ByteArray} (h : okN s = true) : s.size ≤ 96 := by
  unfold okN at h
  simp only [Bool.and_eq_true] at h
  exact name_size h.1
def allN (l : List ByteArray) : Bool := l.all okN
theorem allN_size {l : List ByteArray} (h : allN l = true) : ∀ a, a ∈ l → a.size ≤ 96 := fun a ha => okN_size (List.all_eq_true.1 h a ha)
/-! ### instructions -/
/-- What an instruction of a kind has: how many arguments (below 0: up to 6), and which names. -/
def shapeV (k : Int) : Option (Int × Bool × Bool × Bool) :=
  if k = 1 then some (0, true, false, false) else if k = 2 then some (2, true, false, false) else if k = 4 then some (1, true, true, false)
  else if k = 5 then some (1, true, true, false) else if k = 6 then some (2, false, true, false) else if k = 7 then some (-1, true, true, false)
  else if k = 8 then some (0, true, true, false) else if k = 9 then some (1, false, true, false) else if k = 10 then some (1, true, true, false)
  else if k = 11 then some (0, false, true, false) else if k = 12 then some (1, false, true, true) else if k = 13 then some (1, false, false, false) else none
def fitsV (s : ByteArray) (wanted : Bool) : Bool := wanted && okN s || !wanted && decide (s.data.toList = [])
def opName (o : Int) : ByteArray := if 13 ≤ o then .empty else opAt o.toNat
/-- May an instruction be? -/
def rightI (x : Ins) : Bool :=
  if (decide (x.op ≠ 0) != decide (x.kind = 2)) || (decide (x.op ≠ 0) && decide ((opName x.op).data.toList = [])) || (decide (x.num ≠ 0) && decide (x.kind ≠ 1)) || !allN x.args || !allN x.frm then false
  else if x.kind = 3 then okN x.dst && decide (x.ref.data.toList = []) && decide (x.alt.data.toList = []) && decide (x.frm.length = x.args.length) && decide (1 ≤ x.frm.length) && decide (x.frm.length ≤ 64)
  else match shapeV x.kind with
    | none => false
    | some (n, d, r, a) => !(decide (0 < x.frm.length) || (decide (0 ≤ n) && decide ((x.args.length : Int) ≠ n)) || decide (6 < x.args.length)) && (fitsV x.dst d && fitsV x.ref r && fitsV x.alt a)
end Go.Proofs.YteeofakohenpoaaGreatDoor

/- What is written: instructions, blocks, functions, programs. -/
namespace Go.Proofs.YteeofakohenpoaaGreatDoor
open Go.Sx
set_option linter.unusedVariables false
set_option linter.unusedSimpArgs false
set_option maxRecDepth 100000

abbrev spS : ByteArray := ⟨#[32]⟩
abbrev commaS : ByteArray := ⟨#[44, 32]⟩
def phiN (x : Ins) (n : Nat) : List ByteArray := (List.range n).map fun i => (x.frm.getD i .empty ++ (⟨#[58, 32]⟩ : ByteArray)) ++ x.args.getD i .empty
theorem phiN_succ (x : Ins) (n : Nat) : phiN x (n + 1) = phiN x n ++ [(x.frm.getD n .empty ++ (⟨#[58, 32]⟩ : ByteArray)) ++ x.args.getD n .empty] := by
  unfold phiN
  rw [List.range_succ, List.map_append]
  rfl
theorem phiN_len (x : Ins) (n : Nat) : (phiN x n).length = n := by unfold phiN; simp
/-- What stands behind the =. -/
def valueP (x : Ins) : ByteArray :=
  if x.kind = 1 then joinB [⟨#[99, 111, 110, 115, 116]⟩, showV x.num] spS
  else if x.kind = 2 then joinB [opName x.op, x.args.getD 0 .empty, x.args.getD 1 .empty] spS
  else if x.kind = 3 then ((⟨#[112, 104, 105, 32, 91]⟩ : ByteArray) ++ joinB (phiN x x.frm.length) commaS) ++ (⟨#[93]⟩ : ByteArray)
  else if x.kind = 4 then joinB [⟨#[108, 111, 97, 100]⟩, x.ref, x.args.getD 0 .empty] spS
  else if x.kind = 5 then joinB [⟨#[119, 114, 97, 112]⟩, x.ref, x.args.getD 0 .empty] spS
  else if x.kind = 7 then joinB [⟨#[99, 97, 108, 108]⟩, ((x.ref ++ (⟨#[40]⟩ : ByteArray)) ++ joinB x.args commaS) ++ (⟨#[41]⟩ : ByteArray)] spS
  else if x.kind = 8 then joinB [⟨#[105, 110, 112, 117, 116]⟩, x.ref] spS
  else joinB [⟨#[114, 101, 108, 101, 97, 115, 101]⟩, x.args.getD 0 .empty, x.ref] spS
/-- An instruction's line. -/
def lineP (x : Ins) : ByteArray :=
  if x.kind = 6 then joinB [⟨#[115, 116, 111, 114, 101]⟩, x.ref, x.args.getD 0 .empty, x.args.getD 1 .empty] spS
  else if x.kind = 9 then joinB [⟨#[111, 117, 116, 112, 117, 116]⟩, x.ref, x.args.getD 0 .empty] spS
  else if x.kind = 11 then joinB [⟨#[106, 117, 109, 112]⟩, x.ref] spS
  else if x.kind = 12 then joinB [⟨#[98, 114, 97, 110, 99, 104]⟩, x.args.getD 0 .empty, x.ref, x.alt] spS
  else if x.kind = 13 then joinB [⟨#[114, 101, 116, 117, 114, 110]⟩, x.args.getD 0 .empty] spS
  else joinB [x.dst, ⟨#[61]⟩, valueP x] spS
theorem join2 (a b s : ByteArray) : joinB [a, b] s = a ++ (s ++ b) := by rw [joinB_cons, joinB_one]
theorem join3 (a b c s : ByteArray) : joinB [a, b, c] s = a ++ (s ++ (b ++ (s ++ c))) := by rw [joinB_cons, joinB_cons, joinB_one]
theorem join4 (a b c d s : ByteArray) : joinB [a, b, c, d] s = a ++ (s ++ (b ++ (s ++ (c ++ (s ++ d))))) := by rw [joinB_cons, joinB_cons, joinB_cons, joinB_one]
/-! ### how long -/
theorem show_size {n : Int} (h : inI64 n) : (showV n).size ≤ 20 := by
  unfold inI64 at h
  have hd := digs_len 19 n.natAbs (by omega)
  unfold showV sgV
  show (ba _).size ≤ 20
  have hs : ∀ l : List UInt8, (ba l).size = l.length := fun l => by show l.toArray.size = l.length; simp
  rw [hs, List.length_append]
  by_cases h0 : n < 0
  · rw [if_pos h0]
    have hd2 := digs_len 18 n.natAbs (by omega)
    simp only [List.length_cons, List.length_nil]; omega
  · rw [if_neg h0]; simp only [List.length_nil]; omega
theorem getD_small {l : List ByteArray} {k : Nat} (h : ∀ a, a ∈ l → a.size ≤ k) (i : Nat) : (l.getD i .empty).size ≤ k := by
  by_cases hi : i < l.length
  · exact h _ (getD_mem hi)
  · rw [List.getD_eq_getElem?_getD, List.getElem?_eq_none (by omega)]
    exact Nat.zero_le _
/-- The names of an instruction that may be. -/
structure SmallN (x : Ins) : Prop where
  dst : x.dst.size ≤ 96
  ref : x.ref.size ≤ 96
  alt : x.alt.size ≤ 96
  args : ∀ a, a ∈ x.args → a.size ≤ 96
  frm : ∀ a, a ∈ x.frm → a.size ≤ 96
  alen : x.args.length ≤ 64
  flen : x.frm.length ≤ 64
theorem size_nil {s : ByteArray} (h : s.data.toList = []) : s.size = 0 := by rw [size_list, h]; rfl
theorem fits_size {s : ByteArray} {b : Bool} (h : fitsV s b = true) : s.size ≤ 96 := by
  unfold fitsV at h
  cases b with
  | true => simp at h; exact okN_size h
  | false => simp at h; rw [size_nil (by simpa using h)]; omega
theorem shape_args {k n : Int} {d r a : Bool} (h : shapeV k = some (n, d, r, a)) : n ≤ 2 := by
  unfold shapeV at h
  by_cases e1 : k = 1
  · rw [if_pos e1] at h; obtain ⟨rfl, _⟩ := Prod.mk.inj (Option.some.inj h); omega
  rw [if_neg e1] at h
  by_cases e2 : k = 2
  · rw [if_pos e2] at h; obtain ⟨rfl, _⟩ := Prod.mk.inj (Option.some.inj h); omega
  rw [if_neg e2] at h
  by_cases e4 : k = 4
  · rw [if_pos e4] at h; obtain ⟨rfl, _⟩ := Prod.mk.inj (Option.some.inj h); omega
  rw [if_neg e4] at h
  by_cases e5 : k = 5
  · rw [if_pos e5] at h; obtain ⟨rfl, _⟩ := Prod.mk.inj (Option.some.inj h); omega
  rw [if_neg e5] at h
  by_cases e6 : k = 6
  · rw [if_pos e6] at h; obtain ⟨rfl, _⟩ := Prod.mk.inj (Option.some.inj h); omega
  rw [if_neg e6] at h
  by_cases e7 : k = 7
  · rw [if_pos e7] at h; obtain ⟨rfl, _⟩ := Prod.mk.inj (Option.some.inj h); omega
  rw [if_neg e7] at h
  by_cases e8 : k = 8
  · rw [if_pos e8] at h; obtain ⟨rfl, _⟩ := Prod.mk.inj (Option.some.inj h); omega
  rw [if_neg e8] at h
  by_cases e9 : k = 9
  · rw [if_pos e9] at h; obtain ⟨rfl, _⟩ := Prod.mk.inj (Option.some.inj h); omega
  rw [if_neg e9] at h
  by_cases e10 : k = 10
  · rw [if_pos e10] at h; obtain ⟨rfl, _⟩ := Prod.mk.inj (Option.some.inj h); omega
  rw [if_neg e10] at h
  by_cases e11 : k = 11
  · rw [if_pos e11] at h; obtain ⟨rfl, _⟩ := Prod.mk.inj (Option.some.inj h); omega
  rw [if_neg e11] at h
  by_cases e12 : k = 12
  · rw [if_pos e12] at h; obtain ⟨rfl, _⟩ := Prod.mk.inj (Option.some.inj h); omega
  rw [if_neg e12] at h
  by_cases e13 : k = 13
  · rw [if_pos e13] at h; obtain ⟨rfl, _⟩ := Prod.mk.inj (Option.some.inj h); omega
  rw [if_neg e13] at h
  cases h
theorem right_small {x : Ins} (h : rightI x = true) : SmallN x := by
  unfold rightI at h
  split at h
  · cases h
  rename_i h0
  simp only [Bool.or_eq_true, not_or, Bool.not_eq_true, Bool.not_eq_false'] at h0
  obtain ⟨⟨⟨_, _⟩, ha⟩, hf⟩ := h0
  have ha := allN_size ha
  have hf := allN_size hf
  split at h
  · simp only [Bool.and_eq_true, decide_eq_true_eq] at h
    obtain ⟨⟨⟨⟨⟨h1, h2⟩, h3⟩, h4⟩, h5⟩, h6⟩ := h
    exact ⟨okN_size h1, by rw [size_nil h2]; omega, by rw [size_nil h3]; omega, ha, hf, by omega, h6⟩
  · split at h
    · cases h
    · rename_i n d r a hs
      simp only [Bool.and_eq_true, Bool.not_eq_true', Bool.or_eq_false_iff, decide_eq_false_iff_not] at h
      obtain ⟨⟨⟨h1, h2⟩, h3⟩, ⟨h4, h5⟩, h6⟩ := h
      exact ⟨fits_size h4, fits_size h5, fits_size h6, ha, hf, by omega, by omega⟩
theorem phi_size {x : Ins} (h : SmallN x) (n : Nat) : ∀ a, a ∈ phiN x n → a.size ≤ 194 := fun a ha => by
  unfold phiN at ha
  obtain ⟨i, _, rfl⟩ := List.mem_map.1 ha
  have h1 := getD_small h.frm i
  have h2 := getD_small h.args i
  rw [app_size, app_size]
  show (x.frm.getD i .empty).size + 2 + (x.args.getD i .empty).size ≤ 194
  omega
theorem opName_size (o : Int) : (opName o).size ≤ 4 := by
  unfold opName
  split
  · exact Nat.zero_le _
  · have : ∀ n, n < 13 → (opAt n).size ≤ 4 := by decide +kernel
    exact this _ (by omega)
theorem value_size {x : Ins} (h : SmallN x) (hn : inI64 x.num) : (valueP x).size ≤ 13000 := by
  have a0 := getD_small h.args 0
  have a1 := getD_small h.args 1
  have hr := h.ref
  have hw := show_size hn
  have ho := opName_size x.op
  have hp := joinB_size commaS 194 (phiN x x.frm.length) (phi_size h _)
  rw [phiN_len] at hp
  have hp2 : (joinB (phiN x x.frm.length) commaS).size ≤ 64 * 196 := Nat.le_trans hp (Nat.mul_le_mul_right _ h.flen)
  have hq := joinB_size commaS 96 x.args h.args
  have hq2 : (joinB x.args commaS).size ≤ 64 * 98 := Nat.le_trans hq (Nat.mul_le_mul_right _ h.alen)
  unfold valueP
  split
  · rw [join2, app_size, app_size]; show 5 + (1 + _) ≤ _; omega
  split
  · rw [join3, app_size, app_size, app_size, app_size]; show _ + (1 + (_ + (1 + _))) ≤ _; omega
  split
  · rw [app_size, app_size]; show 5 + _ + 1 ≤ _; omega
  split
  · rw [join3, app_size, app_size, app_size, app_size]; show 4 + (1 + (_ + (1 + _))) ≤ _; omega
  split
  · rw [join3, app_size, app_size, app_size, app_size]; show 4 + (1 + (_ + (1 + _))) ≤ _; omega
  split
  · rw [join2, app_size, app_size, app_size, app_size, app_size]; show 4 + (1 + (_ + 1 + _ + 1)) ≤ _; omega
  split
  · rw [join2, app_size, app_size]; show 5 + (1 + _) ≤ _; omega
  · rw [join3, app_size, app_size, app_size, app_size]; show 7 + (1 + (_ + (1 + _))) ≤ _; omega
theorem line_size {x : Ins} (h : SmallN x) (hn : inI64 x.num) : (lineP x).size ≤ 14000 := by
  have a0 := getD_small h.args 0
  have a1 := getD_small h.args 1
  have hr := h.ref
  have hd := h.dst
  have hal := h.alt
  have hv := value_size h hn
  unfold lineP
  split
  · rw [join4, app_size, app_size, app_size, app_size, app_size, app_size]; show 5 + (1 + (_ + (1 + (_ + (1 + _))))) ≤ _; omega
  split
  · rw [join3, app_size, app_size, app_size, app_size]; show 6 + (1 + (_ + (1 + _))) ≤ _; omega
  split
  · rw [join2, app_size, app_size]; show 4 + (1 + _) ≤ _; omega
  split
  · rw [join4, app_size, app_size, app_size, app_size, app_size, app_size]; show 6 + (1 + (_ + (1 + (_ + (1 + _))))) ≤ _; omega
  split
  · rw [join2, app_size, app_size]; show 6 + (1 + _) ≤ _; omega
  · rw [join3, app_size, app_size, app_size, app_size]; show _ + (1 + (1 + (1 + _))) ≤ _; omega
/-! ### programs -/
def arrOK (a : Arr) : Bool := !(!okN a.name || !okN a.level || decide (a.size < 1) || decide (256 < a.size))
def blkOK (b : Blk) : Bool := okN b.name && b.code.all rightI
/-- How many instructions a function has that may be. -/
def funOK (f : Fun) : Bool := !(!okN f.name || !allN f.params || decide (6 < f.params.length) || decide (f.blocks.length < 1) || decide (64 < f.blocks.length)) && f.blocks.all blkOK
def progN8 (fs : List Fun) : Nat := (fs.map fun f => (f.blocks.map fun b => b.code.length).sum).sum
def rightP (p : Prg) : Bool := !(decide (16 < p.arrays.length) || decide (64 < p.funcs.length)) && p.arrays.all arrOK && p.funcs.all funOK && decide (progN8 p.funcs ≤ 4096)
def arrLine (a : Arr) : ByteArray := joinB [⟨#[97, 114, 114, 97, 121]⟩, a.name, showV a.size, a.level] spS
def fnLine (f : Fun) : ByteArray := ((((⟨#[102, 110, 32]⟩ : ByteArray) ++ f.name) ++ (⟨#[40]⟩ : ByteArray)) ++ joinB f.params commaS) ++ (⟨#[41, 32, 123]⟩ : ByteArray)
def blkLine (b : Blk) : ByteArray := b.name ++ (⟨#[58]⟩ : ByteArray)
def insLine (x : Ins) : ByteArray := (⟨#[32, 32]⟩ : ByteArray) ++ lineP x
/-- A line more. -/
def putP (acc l : ByteArray) : ByteArray := acc ++ (l ++ (⟨#[10]⟩ : ByteArray))
def textA (acc : ByteArray) (l : List Arr) : ByteArray := l.foldl (fun acc a => putP acc (arrLine a)) acc
def textC (acc : ByteArray) (l : List Ins) : ByteArray := l.foldl (fun acc x => putP acc (insLine x)) acc
def textB (acc : ByteArray) (l : List Blk) : ByteArray := l.foldl (fun acc b => textC (putP acc (blkLine b)) b.code) acc
def textF (acc : ByteArray) (l : List Fun) : ByteArray := l.foldl (fun acc f => putP (textB (putP acc (fnLine f)) f.blocks) ⟨#[125]⟩) acc
def textP (p : Prg) : ByteArray := textF (textA .empty p.arrays) p.funcs
/-- What is written of a program, or the error. -/
def printP (p : Prg) : ByteArray × Int := if rightP p = true then (if 65536 < (textP p).size then (.empty, 2) else (textP p, 0)) else (.empty, 1)
theorem fold_take {α β : Type} (f : β → α → β) (b : β) {l : List α} {i : Nat} (h : i < l.length) (d : α) : (l.take (i + 1)).foldl f b = f ((l.take i).foldl f b) (l.getD i d) := by
  rw [List.take_succ_eq_append_getElem h, List.foldl_append, List.getD_eq_getElem?_getD, List.getElem?_eq_getElem h]
  rfl
end Go.Proofs.YteeofakohenpoaaGreatDoor

/- What the printer asks of names and instructions. -/
namespace Go.Proofs.YteeofakohenpoaaGreatDoor
open Go.Sx
set_option linter.unusedVariables false
set_option linter.unusedSimpArgs false
set_option maxRecDepth 100000

abbrev okL : Nat := 140737488355328
abbrev bigN : Nat := 10000000000000
theorem pname_spec (s : ByteArray) (hs : s.size ≤ okL) : Pure PG 24 [vs s] (vb (okN s)) [] := by
  refine Proc.mk (cfg 10) tysOK [] Tryz.func24 rfl (by kernel_rfl) rfl rfl rfl ?_
  intro C x
  refine x.pure rfl trivial rfl (name_spec s (by unfold okL at hs; omega)) ⟨rfl, trivial⟩ ?_
  refine x.pureG rfl trivial rfl (fun _ => word_spec s) rfl ⟨rfl, trivial⟩ ?_
  refine x.exit rfl trivial ?_
  refine ⟨.inr rfl, ?_, trivial, rfl⟩
  rfl
theorem allN_F (l : List ByteArray) : allF (fun i => okN (l.getD i .empty)) l.length 0 = allN l := by
  rw [Bool.eq_iff_iff, allF_iff]
  unfold allN
  rw [List.all_eq_true]
  constructor
  · intro h x hx
    obtain ⟨i, hi, rfl⟩ := List.getElem_of_mem hx
    have := h i (Nat.zero_le _) (by omega)
    rwa [List.getD_eq_getElem?_getD, List.getElem?_eq_getElem hi] at this
  · intro h j _ hj
    exact h _ (getD_mem (by omega))
theorem pnames_spec (l : List ByteArray) (hl : l.length ≤ bigN) (hs : ∀ a, a ∈ l → a.size ≤ okL) : Pure PG 39 [.d (dStrs l)] (vb (allN l)) [] := by
  refine Proc.mk (cfg 15) tysOK [] Tryz.func39 rfl (by kernel_rfl) rfl rfl rfl ?_
  intro C x
  unfold bigN at hl
  obtain ⟨R, hR⟩ : ∃ R, allN l = R := ⟨_, rfl⟩
  have hR2 : allF (fun i => okN (l.getD i .empty)) l.length 0 = R := by rw [allN_F]; exact hR
  rw [hR]
  refine x.loop (α := AW (fun i => okN (l.getD i .empty)) l.length R) (fun y => ⟨[(5, .d (dStrs l)), (6, vi l.length), (7, vi (y.i : Int))], [], 0⟩) (fun y => l.length - y.i) ⟨0, Nat.zero_le _, hR2⟩ rfl trivial ⟨⟨veq_d rfl, rfl, rfl, trivial⟩, trivial, rfl⟩ (fun y => ?_)
  obtain ⟨i, hi, same⟩ := y
  change Go C _ ⟨[(5, .d (dStrs l)), (6, vi l.length), (7, vi (i : Int))], [], 0⟩ _
  refine x.cond rfl trivial (fun h2 => ?_) (fun h2 => ?_)
  · have h2 : (i : Int) < (l.length : Int) := of_decide_eq_true h2
    have h2 : i < l.length := by omega
    refine x.pure rfl (by simp only [AllP]; omega) rfl (pname_spec (l.getD ((i : Int).toNat) .empty) (hs _ (by rw [Int.toNat_natCast]; exact getD_mem h2))) ⟨rfl, trivial⟩ ?_
    rw [Int.toNat_natCast]
    refine x.cond rfl trivial (fun h3 => ?_) (fun h3 => ?_)
    · have h3 : (!okN (l.getD i .empty)) = true := h3
      refine x.exit rfl trivial ?_
      rw [AW.stop h2 same (by simpa using h3)]
      exact ⟨.inr rfl, rfl, trivial, rfl⟩
    · have h3 : (!okN (l.getD i .empty)) = false := h3
      refine x.back rfl (by simp only [AllP, inI64]; omega) ⟨⟨i + 1, by omega, AW.step h2 same (by simpa using h3)⟩, by show l.length - (i + 1) < l.length - i; omega, ⟨veq_d rfl, rfl, ?_, trivial⟩, trivial, rfl⟩
      show VEq0 (vi ((i : Int) + 1)) (vi ((i + 1 : Nat) : Int)); rw [Int.natCast_add]; rfl
  · have h2 : ¬ (i : Int) < (l.length : Int) := of_decide_eq_false h2
    refine x.exit rfl trivial ?_
    rw [AW.fin (by omega) hi same]
    exact ⟨.inr rfl, rfl, trivial, rfl⟩
theorem fits_spec (s : ByteArray) (b : Bool) (hs : s.size ≤ okL) : Pure PG 51 [vs s, vb b] (vb (fitsV s b)) [] := by
  refine Proc.mk (cfg 18) tysOK [] Tryz.func51 rfl (by kernel_rfl) rfl rfl rfl ?_
  intro C x
  refine x.pureG rfl trivial rfl (fun _ => pname_spec s hs) rfl ⟨rfl, trivial⟩ ?_
  refine x.exit rfl trivial ?_
  refine ⟨.inr rfl, ?_, trivial, rfl⟩
  unfold fitsV
  cases b
  · rfl
  · cases okN s <;> rfl
theorem opname_spec (o : Int) (h0 : 0 ≤ o) (h1 : o < 256) : Pure PG 49 [.d (.int .u8 o)] (vs (opName o)) [] := by
  refine Proc.mk (cfg 9) tysOK [] Tryz.func49 rfl (by kernel_rfl) rfl rfl rfl ?_
  intro C x
  refine x.cond rfl (by simp only [AllP, inI64]; omega) (fun h => ?_) (fun h => ?_)
  · have h : 13 ≤ o := of_decide_eq_true h
    refine x.exit rfl trivial ?_
    unfold opName
    rw [if_pos h]
    exact ⟨.inr rfl, rfl, trivial, rfl⟩
  · have h : ¬ 13 ≤ o := of_decide_eq_false h
    refine x.glob (fun j => .str (opAt j)) rfl trivial rfl names_at ⟨h0, by omega⟩ ?_
    refine x.exit rfl trivial ?_
    unfold opName
    rw [if_neg h]
    exact ⟨.inr rfl, rfl, trivial, rfl⟩
def shapesT : List (Key × V) := [(.inr 1, .agg [vi 0, vb true, vb false, vb false]), (.inr 2, .agg [vi 2, vb true, vb false, vb false]), (.inr 4, .agg [vi 1, vb true, vb true, vb false]), (.inr 5, .agg [vi 1, vb true, vb true, vb false]), (.inr 6, .agg [vi 2, vb false, vb true, vb false]), (.inr 7, .agg [vi (-1), vb true, vb true, vb false]), (.inr 8, .agg [vi 0, vb true, vb true, vb false]), (.inr 9, .agg [vi 1, vb false, vb true, vb false]), (.inr 10, .agg [vi 1, vb true, vb true, vb false]), (.inr 11, .agg [vi 0, vb false, vb true, vb false]), (.inr 12, .agg [vi 1, vb false, vb true, vb true]), (.inr 13, .agg [vi 1, vb false, vb false, vb false])]
theorem shapes_spec : Pure PG 50 [] (.own 0) [.tbl shapesT] := by
  refine Proc.mk (cfg 15) tysOK [0] Tryz.func50 rfl (by kernel_rfl) rfl rfl rfl ?_
  intro C x
  refine x.exit rfl ?_ ?_
  · simp only [AllP, newKey, keyEq]
    simp
  · exact ⟨.inr rfl, rfl, ⟨⟨rfl, rfl, rfl, rfl, rfl, rfl, rfl, rfl, rfl, rfl, rfl, rfl, rfl, rfl, rfl, rfl, rfl, rfl, rfl, rfl, rfl, rfl, rfl, rfl, trivial⟩, trivial⟩, rfl⟩
theorem lkGoals_of {k : Key} {G : V → Bool → Prop} {z : V} : ∀ {es : List (Key × V)}, G ((tblAt k es).getD z) (tblAt k es).isSome → lkGoals k G z es
  | [], h => h
  | (a, v) :: r, h => by
    unfold tblAt at h
    refine ⟨fun hk => ?_, fun hk => ?_⟩
    · rw [if_pos hk] at h; exact h
    · rw [if_neg hk] at h; exact lkGoals_of h
theorem tbl_pos {k n : Int} {v : V} {r : List (Key × V)} (e : k = n) : tblAt (.inr k) ((.inr n, v) :: r) = some v := by
  unfold tblAt
  exact if_pos e
theorem tbl_neg {k n : Int} {v : V} {r : List (Key × V)} (e : ¬ k = n) : tblAt (.inr k) ((.inr n, v) :: r) = tblAt (.inr k) r := by
  conv => lhs; unfold tblAt
  exact if_neg e
def shV (p : Int × Bool × Bool × Bool) : V := .agg [vi p.1, vb p.2.1, vb p.2.2.1, vb p.2.2.2]
theorem shapes_at (k : Int) : tblAt (.inr k) shapesT = (shapeV k).map shV := by
  unfold shapesT shapeV
  by_cases e1 : k = 1
  · rw [tbl_pos e1, if_pos e1]; rfl
  rw [tbl_neg e1, if_neg e1]
  by_cases e2 : k = 2
  · rw [tbl_pos e2, if_pos e2]; rfl
  rw [tbl_neg e2, if_neg e2]
  by_cases e4 : k = 4
  · rw [tbl_pos e4, if_pos e4]; rfl
  rw [tbl_neg e4, if_neg e4]
  by_cases e5 : k = 5
  · rw [tbl_pos e5, if_pos e5]; rfl
  rw [tbl_neg e5, if_neg e5]
  by_cases e6 : k = 6
  · rw [tbl_pos e6, if_pos e6]; rfl
  rw [tbl_neg e6, if_neg e6]
  by_cases e7 : k = 7
  · rw [tbl_pos e7, if_pos e7]; rfl
  rw [tbl_neg e7, if_neg e7]
  by_cases e8 : k = 8
  · rw [tbl_pos e8, if_pos e8]; rfl
  rw [tbl_neg e8, if_neg e8]
  by_cases e9 : k = 9
  · rw [tbl_pos e9, if_pos e9]; rfl
  rw [tbl_neg e9, if_neg e9]
  by_cases e10 : k = 10
  · rw [tbl_pos e10, if_pos e10]; rfl
  rw [tbl_neg e10, if_neg e10]
  by_cases e11 : k = 11
  · rw [tbl_pos e11, if_pos e11]; rfl
  rw [tbl_neg e11, if_neg e11]
  by_cases e12 : k = 12
  · rw [tbl_pos e12, if_pos e12]; rfl
  rw [tbl_neg e12, if_neg e12]
  by_cases e13 : k = 13
  · rw [tbl_pos e13, if_pos e13]; rfl
  rw [tbl_neg e13, if_neg e13]
  rfl
theorem lk_some {k : Int} {G : V → Bool → Prop} {z : V} {q : Int × Bool × Bool × Bool} (h : shapeV k = some q) (g : G (shV q) true) : lkGoals (.inr k) G z shapesT :=
  lkGoals_of (by rw [shapes_at, h]; exact g)
theorem lk_none {k : Int} {G : V → Bool → Prop} {z : V} (h : shapeV k = none) (g : G z false) : lkGoals (.inr k) G z shapesT :=
  lkGoals_of (by rw [shapes_at, h]; exact g)
end Go.Proofs.YteeofakohenpoaaGreatDoor

/- Instructions and programs that are handed in, as data. -/
namespace Go.Proofs.YteeofakohenpoaaGreatDoor
open Go.Sx
set_option linter.unusedVariables false
set_option linter.unusedSimpArgs false

theorem conf_list {α : Type} {z : Nat} {τ : List DTy} {x : D} (d : α → List D) (P : α → Prop) (a0 : α) (each : ∀ ds, Conf τ ds → ∃ a, P a ∧ ds.length = (d a).length ∧ ∀ (j : Nat) (u u' : D), ds[j]? = some u → (d a)[j]? = some u' → DQ u u')
    (h : Conf1 (.sl z τ) x) : ∃ l : List α, DQ x (.sl τ.length l.length fun i => d (l.getD i a0)) ∧ (l.length ≤ maxLen ∧ l.length * z ≤ reachBytes) ∧ ∀ a ∈ l, P a := by
  cases h with
  | sl _ _ n f hn hz hl hc =>
    have each' : ∀ i, i < n → ∃ a, P a ∧ (f i).length = (d a).length ∧ ∀ (j : Nat) (u u' : D), (f i)[j]? = some u → (d a)[j]? = some u' → DQ u u' := fun i hi => each (f i) ⟨hl i hi, fun j t d ht hd => hc i j t d hi ht hd⟩
    let g : Nat → α := fun i => if h : i < n then Classical.choose (each' i h) else a0
    have hg : ∀ i, i < n → P (g i) ∧ (f i).length = (d (g i)).length ∧ ∀ (j : Nat) (u u' : D), (f i)[j]? = some u → (d (g i))[j]? = some u' → DQ u u' := fun i hi => by
      have e : g i = Classical.choose (each' i hi) := by simp only [g, hi, dite_true]
      rw [e]
      exact Classical.choose_spec (each' i hi)
    refine ⟨(List.range n).map g, ?_, by simpa using ⟨hn, hz⟩, fun o ho => ?_⟩
    · rw [show ((List.range n).map g).length = n by simp]
      refine .sl _ n _ _ (fun i hi => ?_) fun i j u u' hi hd hd' => ?_
      · rw [getD_map_range g a0 hi]; exact (hg i hi).2.1
      · rw [getD_map_range g a0 hi] at hd'
        exact (hg i hi).2.2 j u u' hd hd'
    · obtain ⟨i, hi, rfl⟩ := List.mem_map.1 ho
      exact (hg i (List.mem_range.1 hi)).1
def StrOK (s : ByteArray) : Prop := s.size ≤ 140737488355328
theorem reach_size {s : ByteArray} (h : s.size ≤ reachBytes) : StrOK s := by
  have := reachBytes_lt
  unfold StrOK; omega
theorem conf_strs {z : Nat} {x : D} (h : Conf1 (.sl z [.str]) x) : ∃ l : List ByteArray, DQ x (dStrs l) ∧ (l.length ≤ maxLen ∧ l.length * z ≤ reachBytes) ∧ ∀ a ∈ l, StrOK a :=
  conf_list (fun s => [D.str s]) StrOK .empty (fun ds ⟨hl, hc⟩ => by
    match ds, hl with
    | [d0], _ =>
      obtain ⟨s, rfl, h1, h2⟩ := conf_str (hc 0 _ _ rfl rfl)
      refine ⟨s, reach_size h2, rfl, fun j u u' hd hd' => ?_⟩
      match j with
      | 0 => simp at hd hd'; subst hd hd'; exact .refl _
      | j + 1 => simp at hd) h
def wfI (n : Int) : Prop := (Lit.int .i64 n).wf = true
def wfB (n : Int) : Prop := (Lit.int .u8 n).wf = true
abbrev insTy : List DTy := [.int .u8, .int .u8, .str, .str, .str, .sl 16 [.str], .sl 16 [.str], .int .i64, .int .i64]
structure InsOK (x : Ins) : Prop where
  kind : wfB x.kind
  op : wfB x.op
  dst : StrOK x.dst
  ref : StrOK x.ref
  alt : StrOK x.alt
  args : x.args.length * 16 ≤ reachBytes ∧ ∀ a ∈ x.args, StrOK a
  frm : x.frm.length * 16 ≤ reachBytes ∧ ∀ a ∈ x.frm, StrOK a
  num : wfI x.num
  at_ : wfI x.at_
theorem conf_ins {ds : List D} (h : Conf insTy ds) : ∃ x : Ins, InsOK x ∧ ds.length = (dIns x).length ∧ ∀ (j : Nat) (u u' : D), ds[j]? = some u → (dIns x)[j]? = some u' → DQ u u' := by
  obtain ⟨hl, hc⟩ := h
  match ds, hl with
  | [d0, d1, d2, d3, d4, d5, d6, d7, d8], _ =>
    obtain ⟨n0, rfl, w0⟩ := conf_int (hc 0 _ _ rfl rfl)
    obtain ⟨n1, rfl, w1⟩ := conf_int (hc 1 _ _ rfl rfl)
    obtain ⟨s2, rfl, _, w2⟩ := conf_str (hc 2 _ _ rfl rfl)
    obtain ⟨s3, rfl, _, w3⟩ := conf_str (hc 3 _ _ rfl rfl)
    obtain ⟨s4, rfl, _, w4⟩ := conf_str (hc 4 _ _ rfl rfl)
    obtain ⟨l5, q5, w5, z5⟩ := conf_strs (hc 5 _ _ rfl rfl)
    obtain ⟨l6, q6, w6, z6⟩ := conf_strs (hc 6 _ _ rfl rfl)
    obtain ⟨n7, rfl, w7⟩ := conf_int (hc 7 _ _ rfl rfl)
    obtain ⟨n8, rfl, w8⟩ := conf_int (hc 8 _ _ rfl rfl)
    refine ⟨⟨n0, n1, s2, s3, s4, l5, l6, n7, n8⟩, ⟨w0, w1, reach_size w2, reach_size w3, reach_size w4, ⟨w5.2, z5⟩, ⟨w6.2, z6⟩, w7, w8⟩, rfl, fun j d d' hd hd' => ?_⟩
    match j with
    | 0 => simp at hd hd'; subst hd hd'; exact .refl _
    | 1 => simp at hd hd'; subst hd hd'; exact .refl _
    | 2 => simp at hd hd'; subst hd hd'; exact .refl _
    | 3 => simp at hd hd'; subst hd hd'; exact .refl _
    | 4 => simp at hd hd'; subst hd hd'; exact .refl _
    | 5 => simp at hd hd'; subst hd hd'; exact q5
    | 6 => simp at hd hd'; subst hd hd'; exact q6
    | 7 => simp at hd hd'; subst hd hd'; exact .refl _
    | 8 => simp at hd hd'; subst hd hd'; exact .refl _
    | j + 9 => simp at hd
abbrev insV (x : Ins) : V := .agg [.d (.int .u8 x.kind), .d (.int .u8 x.op), vs x.dst, vs x.ref, vs x.alt, .d (dStrs x.args), .d (dStrs x.frm), vi x.num, vi x.at_]
theorem conf_insV {F : Nat → Prop} {w : World} {ρ : Nat → Value} {ds : List D} {cs : List Value} (h : Conf insTy ds) (hr : All2 (RD F w) ds cs) : ∃ x : Ins, InsOK x ∧ R3 ρ F w (insV x) (.agg cs.toArray) := by
  obtain ⟨hl, hc⟩ := h
  match ds, hl, cs, hr with
  | [d0, d1, d2, d3, d4, d5, d6, d7, d8], _, [c0, c1, c2, c3, c4, c5, c6, c7, c8], ⟨r0, r1, r2, r3, r4, r5, r6, r7, r8, _⟩ =>
    obtain ⟨n0, rfl, w0⟩ := conf_int (hc 0 _ _ rfl rfl)
    obtain ⟨n1, rfl, w1⟩ := conf_int (hc 1 _ _ rfl rfl)
    obtain ⟨s2, rfl, _, w2⟩ := conf_str (hc 2 _ _ rfl rfl)
    obtain ⟨s3, rfl, _, w3⟩ := conf_str (hc 3 _ _ rfl rfl)
    obtain ⟨s4, rfl, _, w4⟩ := conf_str (hc 4 _ _ rfl rfl)
    obtain ⟨l5, q5, w5, z5⟩ := conf_strs (hc 5 _ _ rfl rfl)
    obtain ⟨l6, q6, w6, z6⟩ := conf_strs (hc 6 _ _ rfl rfl)
    obtain ⟨n7, rfl, w7⟩ := conf_int (hc 7 _ _ rfl rfl)
    obtain ⟨n8, rfl, w8⟩ := conf_int (hc 8 _ _ rfl rfl)
    exact ⟨⟨n0, n1, s2, s3, s4, l5, l6, n7, n8⟩, ⟨w0, w1, reach_size w2, reach_size w3, reach_size w4, ⟨w5.2, z5⟩, ⟨w6.2, z6⟩, w7, w8⟩, ⟨_, rfl, r0, r1, r2, r3, r4, q5.sound r5, q6.sound r6, r7, r8, trivial⟩⟩
abbrev blkTy : List DTy := [.str, .sl 120 insTy, .int .i64]
structure BlkOK (b : Blk) : Prop where
  name : StrOK b.name
  code : b.code.length * 120 ≤ reachBytes ∧ ∀ x ∈ b.code, InsOK x
  at_ : wfI b.at_
theorem conf_blk {ds : List D} (h : Conf blkTy ds) : ∃ x : Blk, BlkOK x ∧ ds.length = (dBlk x).length ∧ ∀ (j : Nat) (u u' : D), ds[j]? = some u → (dBlk x)[j]? = some u' → DQ u u' := by
  obtain ⟨hl, hc⟩ := h
  match ds, hl with
  | [d0, d1, d2], _ =>
    obtain ⟨s0, rfl, _, w0⟩ := conf_str (hc 0 _ _ rfl rfl)
    obtain ⟨l1, q1, w1, z1⟩ := conf_list dIns InsOK (ins0 0) (fun ds h => conf_ins h) (hc 1 _ _ rfl rfl)
    obtain ⟨n2, rfl, w2⟩ := conf_int (hc 2 _ _ rfl rfl)
    refine ⟨⟨s0, l1, n2⟩, ⟨reach_size w0, ⟨w1.2, z1⟩, w2⟩, rfl, fun j d d' hd hd' => ?_⟩
    match j with
    | 0 => simp at hd hd'; subst hd hd'; exact .refl _
    | 1 => simp at hd hd'; subst hd hd'; exact q1
    | 2 => simp at hd hd'; subst hd hd'; exact .refl _
    | j + 3 => simp at hd
abbrev funTy : List DTy := [.str, .sl 16 [.str], .sl 48 blkTy, .int .i64]
structure FunOK (f : Fun) : Prop where
  name : StrOK f.name
  params : f.params.length * 16 ≤ reachBytes ∧ ∀ a ∈ f.params, StrOK a
  blocks : f.blocks.length * 48 ≤ reachBytes ∧ ∀ x ∈ f.blocks, BlkOK x
  at_ : wfI f.at_
theorem conf_fun {ds : List D} (h : Conf funTy ds) : ∃ x : Fun, FunOK x ∧ ds.length = (dFun x).length ∧ ∀ (j : Nat) (u u' : D), ds[j]? = some u → (dFun x)[j]? = some u' → DQ u u' := by
  obtain ⟨hl, hc⟩ := h
  match ds, hl with
  | [d0, d1, d2, d3], _ =>
    obtain ⟨s0, rfl, _, w0⟩ := conf_str (hc 0 _ _ rfl rfl)
    obtain ⟨l1, q1, w1, z1⟩ := conf_strs (hc 1 _ _ rfl rfl)
    obtain ⟨l2, q2, w2, z2⟩ := conf_list dBlk BlkOK blk0 (fun ds h => conf_blk h) (hc 2 _ _ rfl rfl)
    obtain ⟨n3, rfl, w3⟩ := conf_int (hc 3 _ _ rfl rfl)
    refine ⟨⟨s0, l1, l2, n3⟩, ⟨reach_size w0, ⟨w1.2, z1⟩, ⟨w2.2, z2⟩, w3⟩, rfl, fun j d d' hd hd' => ?_⟩
    match j with
    | 0 => simp at hd hd'; subst hd hd'; exact .refl _
    | 1 => simp at hd hd'; subst hd hd'; exact q1
    | 2 => simp at hd hd'; subst hd hd'; exact q2
    | 3 => simp at hd hd'; subst hd hd'; exact .refl _
    | j + 4 => simp at hd
abbrev arrTy : List DTy := [.str, .int .i64, .str, .int .i64]
structure ArrOK (a : Arr) : Prop where
  name : StrOK a.name
  size : wfI a.size
  level : StrOK a.level
  at_ : wfI a.at_
theorem conf_arr {ds : List D} (h : Conf arrTy ds) : ∃ x : Arr, ArrOK x ∧ ds.length = (dArr x).length ∧ ∀ (j : Nat) (u u' : D), ds[j]? = some u → (dArr x)[j]? = some u' → DQ u u' := by
  obtain ⟨hl, hc⟩ := h
  match ds, hl with
  | [d0, d1, d2, d3], _ =>
    obtain ⟨s0, rfl, _, w0⟩ := conf_str (hc 0 _ _ rfl rfl)
    obtain ⟨n1, rfl, w1⟩ := conf_int (hc 1 _ _ rfl rfl)
    obtain ⟨s2, rfl, _, w2⟩ := conf_str (hc 2 _ _ rfl rfl)
    obtain ⟨n3, rfl, w3⟩ := conf_int (hc 3 _ _ rfl rfl)
    refine ⟨⟨s0, n1, s2, n3⟩, ⟨reach_size w0, w1, reach_size w2, w3⟩, rfl, fun j d d' hd hd' => ?_⟩
    match j with
    | 0 => simp at hd hd'; subst hd hd'; exact .refl _
    | 1 => simp at hd hd'; subst hd hd'; exact .refl _
    | 2 => simp at hd hd'; subst hd hd'; exact .refl _
    | 3 => simp at hd hd'; subst hd hd'; exact .refl _
    | j + 4 => simp at hd
abbrev prgTy : List DTy := [.sl 48 arrTy, .sl 72 funTy]
structure PrgOK (p : Prg) : Prop where
  arrays : p.arrays.length * 48 ≤ reachBytes ∧ ∀ x ∈ p.arrays, ArrOK x
  funcs : p.funcs.length * 72 ≤ reachBytes ∧ ∀ x ∈ p.funcs, FunOK x
theorem conf_prgV {F : Nat → Prop} {w : World} {ρ : Nat → Value} {ds : List D} {cs : List Value} (h : Conf prgTy ds) (hr : All2 (RD F w) ds cs) : ∃ x : Prg, PrgOK x ∧ R3 ρ F w (prgV x) (.agg cs.toArray) := by
  obtain ⟨hl, hc⟩ := h
  match ds, hl, cs, hr with
  | [d0, d1], _, [c0, c1], ⟨r0, r1, _⟩ =>
    obtain ⟨l0, q0, w0, z0⟩ := conf_list dArr ArrOK arr0 (fun ds h => conf_arr h) (hc 0 _ _ rfl rfl)
    obtain ⟨l1, q1, w1, z1⟩ := conf_list dFun FunOK fun0 (fun ds h => conf_fun h) (hc 1 _ _ rfl rfl)
    exact ⟨⟨l0, l1⟩, ⟨⟨w0.2, z0⟩, ⟨w1.2, z1⟩⟩, ⟨_, rfl, q0.sound r0, q1.sound r1, trivial⟩⟩
end Go.Proofs.YteeofakohenpoaaGreatDoor
