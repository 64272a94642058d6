/- Texts put together: T08B, T08R, T01S, T01V, T08C, T08D, T08E, T17H, T08G, T18A, T07V. -/
import Derived.Test.YteeofakohenpoaaGreatDoorMC
import Derived.Test.YteeofakohenpoaaGreatDoorMA
import Derived.Test.YteeofakohenpoaaGreatDoorSxE
import Derived.Test.YteeofakohenpoaaGreatDoorShelf
import Derived.Test.YteeofakohenpoaaGreatDoorMB

/- May an instruction be? -/
namespace Go.Proofs.YteeofakohenpoaaGreatDoor
open Go.Sx
set_option linter.unusedVariables false
set_option linter.unusedSimpArgs false
set_option maxRecDepth 100000

/-- An instruction of a size that there may be. -/
structure FitI (x : Ins) : Prop where
  kind : 0 ≤ x.kind ∧ x.kind < 256
  op : 0 ≤ x.op ∧ x.op < 256
  dst : x.dst.size ≤ okL
  ref : x.ref.size ≤ okL
  alt : x.alt.size ≤ okL
  alen : x.args.length ≤ bigN
  flen : x.frm.length ≤ bigN
  args : ∀ a, a ∈ x.args → a.size ≤ okL
  frm : ∀ a, a ∈ x.frm → a.size ≤ okL
  num : inI64 x.num
set_option maxHeartbeats 8000000 in
theorem right_spec (x0 : Ins) (hx : FitI x0) : Pure PG 29 [insV x0] (vb (rightI x0)) [] := by
  refine Proc.mk (cfg 135) tysOK [] Tryz.func29 rfl (by kernel_rfl) rfl rfl rfl ?_
  intro C x
  have ha := hx.alen; have hf := hx.flen
  unfold bigN at ha hf
  refine x.pureG rfl trivial rfl (fun _ _ => opname_spec x0.op hx.op.1 hx.op.2) rfl ⟨rfl, trivial⟩ ?_
  refine x.pureG rfl trivial rfl (fun _ => pnames_spec x0.args hx.alen hx.args) rfl ⟨veq_d rfl, trivial⟩ ?_
  refine x.pureG rfl trivial rfl (fun _ => pnames_spec x0.frm hx.flen hx.frm) rfl ⟨veq_d rfl, trivial⟩ ?_
  refine x.cond rfl trivial (fun h => ?_) (fun h => ?_)
  · have h : (!((!decide (x0.op = 0)) == decide (x0.kind = 2)) || (!decide (x0.op = 0) && decide ((opName x0.op).data.toList = [])) || (!decide (x0.num = 0) && !decide (x0.kind = 1)) || !allN x0.args || !allN x0.frm) = true := h
    refine x.exit rfl trivial ?_
    refine ⟨.inr rfl, ?_, trivial, rfl⟩
    show false = rightI x0
    unfold rightI
    rw [if_pos (by simpa only [ne_eq, decide_not, bne] using h)]
  have h : (!((!decide (x0.op = 0)) == decide (x0.kind = 2)) || (!decide (x0.op = 0) && decide ((opName x0.op).data.toList = [])) || (!decide (x0.num = 0) && !decide (x0.kind = 1)) || !allN x0.args || !allN x0.frm) = false := h
  have hA : ((decide (x0.op ≠ 0) != decide (x0.kind = 2)) || (decide (x0.op ≠ 0) && decide ((opName x0.op).data.toList = [])) || (decide (x0.num ≠ 0) && decide (x0.kind ≠ 1)) || !allN x0.args || !allN x0.frm) = false := by simpa only [ne_eq, decide_not, bne] using h
  clear h
  unfold rightI
  rw [if_neg (by rw [hA]; decide)]
  refine x.cond rfl trivial (fun h2 => ?_) (fun h2 => ?_)
  · have h2 : x0.kind = 3 := of_decide_eq_true h2
    rw [if_pos h2]
    refine x.pure rfl trivial rfl (pname_spec x0.dst hx.dst) ⟨rfl, trivial⟩ ?_
    refine x.exit rfl trivial ?_
    refine ⟨.inr rfl, ?_, trivial, rfl⟩
    show (okN x0.dst && decide (x0.ref.data.toList = []) && decide (x0.alt.data.toList = []) && decide ((x0.frm.length : Int) = x0.args.length) && decide (1 ≤ (x0.frm.length : Int)) && decide ((x0.frm.length : Int) ≤ 64)) = _
    rw [show decide ((x0.frm.length : Int) = x0.args.length) = decide (x0.frm.length = x0.args.length) by rw [decide_eq_decide]; omega, show decide (1 ≤ (x0.frm.length : Int)) = decide (1 ≤ x0.frm.length) by rw [decide_eq_decide]; omega, show decide ((x0.frm.length : Int) ≤ 64) = decide (x0.frm.length ≤ 64) by rw [decide_eq_decide]; omega]
  have h2 : ¬ x0.kind = 3 := of_decide_eq_false h2
  rw [if_neg h2]
  cases hsh : shapeV x0.kind with
  | none =>
    refine x.every2 [] [1, 2] (.fork 0 (.fork 3 (.fork 4 (.fork 5 (.fork 6 (.fork 7 (.fork 8 (.fork 9 .leaf .no) .no) .no) (.fork 7 (.fork 6 (.fork 8 (.fork 9 .leaf .no) .no) (.fork 8 (.fork 6 (.fork 9 .leaf .no) .no) .no)) .no)) (.fork 6 (.fork 5 (.fork 7 (.fork 8 (.fork 9 .leaf .no) .no) .no) (.fork 7 (.fork 5 (.fork 8 (.fork 9 .leaf .no) .no) .no) .no)) (.fork 7 (.fork 5 (.fork 6 (.fork 8 (.fork 9 .leaf .no) .no) (.fork 8 (.fork 6 (.fork 9 .leaf .no) .no) .no)) (.fork 6 (.fork 5 (.fork 8 (.fork 9 .leaf .no) .no) .no) .no)) .no))) (.fork 7 (.fork 4 (.fork 5 (.fork 6 (.fork 8 (.fork 9 .leaf .no) .no) (.fork 8 (.fork 6 (.fork 9 .leaf .no) .no) .no)) (.fork 6 (.fork 5 (.fork 8 (.fork 9 .leaf .no) .no) .no) .no)) .no) .no)) (.fork 7 (.fork 3 (.fork 4 (.fork 5 (.fork 6 (.fork 8 (.fork 9 .leaf .no) .no) (.fork 8 (.fork 6 (.fork 9 .leaf .no) .no) .no)) (.fork 6 (.fork 5 (.fork 8 (.fork 9 .leaf .no) .no) .no) .no)) .no) .no) .no)) (.fork 7 (.fork 0 (.fork 3 (.fork 4 (.fork 5 (.fork 6 (.fork 8 (.fork 9 .leaf .no) .no) (.fork 8 (.fork 6 (.fork 9 .leaf .no) .no) .no)) (.fork 6 (.fork 5 (.fork 8 (.fork 9 .leaf .no) .no) .no) .no)) .no) .no) .no) .no))
      ⟨[(1, .ptr 0 0), (3, .ptr 2 0), (4, vb false)], [(2, .box [vi 0, vb false, vb false, vb false])], 3⟩
      rfl trivial mixedP (by kernel_rfl) Ret.noPanic rfl trivial (fun C2 x2 => ?_) ?_
    · repeat' first
        | exact True.intro
        | refine And.intro ?_ ?_
        | refine x2.back rfl trivial ?_
        | refine x2.call [] rfl trivial rfl shapes_spec rfl trivial trivial (x2.back rfl trivial ?_)
        | refine x2.look rfl trivial rfl (lk_none hsh ?_)
        | exact .inl ⟨⟨⟨rfl, rfl⟩, ⟨rfl, rfl⟩, rfl, trivial⟩, ⟨⟨rfl, rfl, rfl, rfl, trivial⟩, trivial⟩, rfl⟩
        | exact .inr ⟨[0, 2, 1], rfl, ⟨⟨rfl, rfl⟩, ⟨rfl, rfl⟩, rfl, trivial⟩, ⟨⟨rfl, rfl, rfl, rfl, trivial⟩, trivial⟩, rfl⟩
    refine x.cond rfl trivial (fun h3 => ?_) (fun h3 => ?_)
    · refine x.exit rfl trivial ?_
      exact ⟨.inr rfl, rfl, trivial, rfl⟩
    · have h3 : ((!false || decide ((0 : Int) < x0.frm.length)) || (decide ((0 : Int) ≤ 0) && !decide ((x0.args.length : Int) = 0)) || decide ((6 : Int) < x0.args.length)) = false := h3
      simp at h3
  | some q =>
    obtain ⟨n, d, r, b⟩ := q
    refine x.every2 [] [1, 2] (.fork 0 (.fork 3 (.fork 4 (.fork 5 (.fork 6 (.fork 7 (.fork 8 (.fork 9 .leaf .no) .no) .no) (.fork 7 (.fork 6 (.fork 8 (.fork 9 .leaf .no) .no) (.fork 8 (.fork 6 (.fork 9 .leaf .no) .no) .no)) .no)) (.fork 6 (.fork 5 (.fork 7 (.fork 8 (.fork 9 .leaf .no) .no) .no) (.fork 7 (.fork 5 (.fork 8 (.fork 9 .leaf .no) .no) .no) .no)) (.fork 7 (.fork 5 (.fork 6 (.fork 8 (.fork 9 .leaf .no) .no) (.fork 8 (.fork 6 (.fork 9 .leaf .no) .no) .no)) (.fork 6 (.fork 5 (.fork 8 (.fork 9 .leaf .no) .no) .no) .no)) .no))) (.fork 7 (.fork 4 (.fork 5 (.fork 6 (.fork 8 (.fork 9 .leaf .no) .no) (.fork 8 (.fork 6 (.fork 9 .leaf .no) .no) .no)) (.fork 6 (.fork 5 (.fork 8 (.fork 9 .leaf .no) .no) .no) .no)) .no) .no)) (.fork 7 (.fork 3 (.fork 4 (.fork 5 (.fork 6 (.fork 8 (.fork 9 .leaf .no) .no) (.fork 8 (.fork 6 (.fork 9 .leaf .no) .no) .no)) (.fork 6 (.fork 5 (.fork 8 (.fork 9 .leaf .no) .no) .no) .no)) .no) .no) .no)) (.fork 7 (.fork 0 (.fork 3 (.fork 4 (.fork 5 (.fork 6 (.fork 8 (.fork 9 .leaf .no) .no) (.fork 8 (.fork 6 (.fork 9 .leaf .no) .no) .no)) (.fork 6 (.fork 5 (.fork 8 (.fork 9 .leaf .no) .no) .no) .no)) .no) .no) .no) .no))
      ⟨[(1, .ptr 0 0), (3, .ptr 2 0), (4, vb true)], [(2, .box [vi n, vb d, vb r, vb b])], 3⟩
      rfl trivial mixedP (by kernel_rfl) Ret.noPanic rfl trivial (fun C2 x2 => ?_) ?_
    · repeat' first
        | exact True.intro
        | refine And.intro ?_ ?_
        | refine x2.back rfl trivial ?_
        | refine x2.call [] rfl trivial rfl shapes_spec rfl trivial trivial (x2.back rfl trivial ?_)
        | refine x2.look rfl trivial rfl (lk_some hsh ?_)
        | exact .inl ⟨⟨⟨rfl, rfl⟩, ⟨rfl, rfl⟩, rfl, trivial⟩, ⟨⟨rfl, rfl, rfl, rfl, trivial⟩, trivial⟩, rfl⟩
        | exact .inr ⟨[0, 2, 1], rfl, ⟨⟨rfl, rfl⟩, ⟨rfl, rfl⟩, rfl, trivial⟩, ⟨⟨rfl, rfl, rfl, rfl, trivial⟩, trivial⟩, rfl⟩
    have eb : (decide (0 < x0.frm.length) || (decide (0 ≤ n) && decide ((x0.args.length : Int) ≠ n)) || decide (6 < x0.args.length)) = (((!true || decide ((0 : Int) < x0.frm.length)) || (decide (0 ≤ n) && !decide ((x0.args.length : Int) = n))) || decide ((6 : Int) < x0.args.length)) := by
      rw [show decide ((0 : Int) < x0.frm.length) = decide (0 < x0.frm.length) by rw [decide_eq_decide]; omega, show decide ((6 : Int) < x0.args.length) = decide (6 < x0.args.length) by rw [decide_eq_decide]; omega]
      simp only [ne_eq, decide_not, Bool.not_true, Bool.false_or]
    refine x.cond rfl trivial (fun h3 => ?_) (fun h3 => ?_)
    · have h3 : (((!true || decide ((0 : Int) < x0.frm.length)) || (decide (0 ≤ n) && !decide ((x0.args.length : Int) = n))) || decide ((6 : Int) < x0.args.length)) = true := h3
      refine x.exit rfl trivial ?_
      refine ⟨.inr rfl, ?_, trivial, rfl⟩
      show false = (!(_ || _ || _) && _)
      rw [eb, h3]
      rfl
    · have h3 : (((!true || decide ((0 : Int) < x0.frm.length)) || (decide (0 ≤ n) && !decide ((x0.args.length : Int) = n))) || decide ((6 : Int) < x0.args.length)) = false := h3
      refine x.pure rfl trivial rfl (fits_spec x0.dst d hx.dst) ⟨rfl, rfl, trivial⟩ ?_
      refine x.pureG rfl trivial rfl (fun _ => fits_spec x0.ref r hx.ref) rfl ⟨rfl, rfl, trivial⟩ ?_
      refine x.pureG rfl trivial rfl (fun _ => fits_spec x0.alt b hx.alt) rfl ⟨rfl, rfl, trivial⟩ ?_
      refine x.exit rfl trivial ?_
      refine ⟨.inr rfl, ?_, trivial, rfl⟩
      show (fitsV x0.dst d && fitsV x0.ref r && fitsV x0.alt b) = (!(_ || _ || _) && _)
      rw [eb, h3]
      rfl
end Go.Proofs.YteeofakohenpoaaGreatDoor

/- What an instruction that may be has. -/
namespace Go.Proofs.YteeofakohenpoaaGreatDoor
open Go.Sx
set_option linter.unusedVariables false
set_option linter.unusedSimpArgs false
set_option maxRecDepth 100000

/-! ### instructions -/
theorem fits_on {s : ByteArray} (h : fitsV s true = true) : okN s = true := by unfold fitsV at h; simpa using h
theorem fits_off {s : ByteArray} (h : fitsV s false = true) : s = .empty := joinB_one.ba_inj8 (by unfold fitsV at h; simpa using h)
theorem allN_at {l : List ByteArray} (h : allN l = true) {i : Nat} (hi : i < l.length) : okN (l.getD i .empty) = true := List.all_eq_true.1 h _ (getD_mem hi)
/-- What an instruction that may be has. -/
structure RIn (x : Ins) (n : Int) (d r a : Bool) : Prop where
  args : allN x.args = true
  frm : x.frm = []
  alen : (0 ≤ n → (x.args.length : Int) = n) ∧ x.args.length ≤ 6
  dst : fitsV x.dst d = true
  ref : fitsV x.ref r = true
  alt : fitsV x.alt a = true
  op : x.op ≠ 0 ↔ x.kind = 2
  num : x.num ≠ 0 → x.kind = 1
structure RPhi (x : Ins) : Prop where
  args : allN x.args = true
  frm : allN x.frm = true
  dst : okN x.dst = true
  ref : x.ref = .empty
  alt : x.alt = .empty
  len : x.frm.length = x.args.length ∧ 1 ≤ x.frm.length ∧ x.frm.length ≤ 64
  op : x.op = 0
  num : x.num = 0
theorem right_cases {x : Ins} (h : rightI x = true) : (x.kind = 3 ∧ RPhi x) ∨ ∃ n d r a, shapeV x.kind = some (n, d, r, a) ∧ x.kind ≠ 3 ∧ RIn x n d r a ∧ (x.kind = 2 → (opName x.op).data.toList ≠ []) := by
  unfold rightI at h
  split at h
  · cases h
  rename_i h0
  simp only [Bool.or_eq_true, not_or, Bool.not_eq_true, Bool.not_eq_false'] at h0
  obtain ⟨⟨⟨⟨ho, hop⟩, hnum⟩, ha⟩, hf⟩ := h0
  have ho : x.op ≠ 0 ↔ x.kind = 2 := by
    by_cases c1 : x.op = 0 <;> by_cases c2 : x.kind = 2 <;> simp [c1, c2] at ho ⊢
  have hnum : x.num ≠ 0 → x.kind = 1 := fun h => by
    by_cases c2 : x.kind = 1
    · exact c2
    · simp [h, c2] at hnum
  have hop : x.op ≠ 0 → (opName x.op).data.toList ≠ [] := fun h h2 => by simp [h, h2] at hop
  split at h
  · rename_i hk
    simp only [Bool.and_eq_true, decide_eq_true_eq] at h
    obtain ⟨⟨⟨⟨⟨h1, h2⟩, h3⟩, h4⟩, h5⟩, h6⟩ := h
    refine .inl ⟨hk, ha, hf, h1, joinB_one.ba_inj8 h2, joinB_one.ba_inj8 h3, ⟨h4, h5, h6⟩, ?_, ?_⟩
    · exact Classical.byContradiction fun hne => by have := ho.1 hne; omega
    · exact Classical.byContradiction fun hne => by have := hnum hne; omega
  · rename_i hk
    split at h
    · cases h
    · rename_i n d r a hs
      simp only [Bool.and_eq_true, Bool.not_eq_true', Bool.or_eq_false_iff, decide_eq_false_iff_not] at h
      obtain ⟨⟨⟨h1, h2⟩, h3⟩, ⟨h4, h5⟩, h6⟩ := h
      have hlen : 0 ≤ n → (x.args.length : Int) = n := fun hn => by
        by_cases c : (x.args.length : Int) = n
        · exact c
        · simp [hn, c] at h2
      exact .inr ⟨n, d, r, a, hs, hk, ⟨ha, List.eq_nil_of_length_eq_zero (by omega), ⟨hlen, by omega⟩, h4, h5, h6, ho, hnum⟩, fun hk2 => hop (ho.2 hk2)⟩
end Go.Proofs.YteeofakohenpoaaGreatDoor

/- slices.Reverse of bytes. -/
namespace Go.Proofs.YteeofakohenpoaaGreatDoor
open Go.Sx
set_option linter.unusedVariables false
set_option linter.unusedSimpArgs false
set_option maxRecDepth 100000


/-- The first i turned with the last i. -/
def revF (n i : Nat) (b : Nat → Int) : Nat → Int := fun k => if k < i ∨ n ≤ k + i then b (n - 1 - k) else b k

theorem reverse_spec (n : Nat) (b : Nat → Int) (hn : n ≤ big) : Proc PG 34 1 [.own 0] [.vec 5 1 n fun k => [.int .u8 (b k)]] (.tup []) [.vec 5 1 n fun k => [.int .u8 (b (n - 1 - k))]] := by
  refine Proc.mk (cfg1 28) tysOK [0] Tryz.func34 rfl (by kernel_rfl) rfl rfl rfl ?_
  intro C x
  unfold big at hn
  refine x.loop (α := { i : Nat // 2 * i ≤ n + 1 }) (fun y => ⟨[(0, .own 0), (2, vi (y.1 : Int)), (3, vi ((n : Int) - 1 - (y.1 : Int)))], [(0, .vec 5 1 n fun k => [.int .u8 (revF n y.1 b k)])], 1⟩) (fun y => n - y.1) ⟨0, by omega⟩ rfl (show inI64 ((n : Int) - 1) by unfold inI64; omega) ?_ (fun y => ?_)
  · refine ⟨⟨rfl, rfl, ?_, trivial⟩, ⟨⟨rfl, rfl, rfl, fun i hi => ?_⟩, trivial⟩, rfl⟩
    · show (n : Int) - 1 = (n : Int) - 1 - 0; omega
    · show [D.int .u8 (b i)] = [D.int .u8 (revF n 0 b i)]
      rw [revF, if_neg (by omega)]
  obtain ⟨i, hi⟩ := y
  change Go C _ ⟨[(0, .own 0), (2, vi (i : Int)), (3, vi ((n : Int) - 1 - (i : Int)))], [(0, .vec 5 1 n fun k => [.int .u8 (revF n i b k)])], 1⟩ _
  refine x.cond rfl trivial (fun h => ?_) (fun h => ?_)
  · have h' : (i : Int) < (n : Int) - 1 - i := by simpa using h
    refine x.plan [0, 1, 2, 3, 4, 5, 8, 9] [6, 7, 10, 11, 12] [13, 14, 15] rfl trivial mixedP (by kernel_rfl) Ret.noPanic ?_
    refine x.qdone rfl ?_ ?_
    · simp only [AllP]; omega
    refine x.back rfl ?_ ?_
    · simp only [AllP, List.length, inI64]; omega
    refine ⟨⟨i + 1, by omega⟩, by show n - (i + 1) < n - i; omega, ⟨rfl, ?_, ?_, trivial⟩, ⟨⟨rfl, rfl, rfl, fun k hk => ?_⟩, trivial⟩, rfl⟩
    · show (i : Int) + 1 = ((i + 1 : Nat) : Int); omega
    · show (n : Int) - 1 - i - 1 = (n : Int) - 1 - ((i + 1 : Nat) : Int); omega
    · rw [put2_int, put2_int]
      show [D.int .u8 (if k = ((n : Int) - 1 - i).toNat then revF n i b (i : Int).toNat else if k = (i : Int).toNat then revF n i b ((n : Int) - 1 - i).toNat else revF n i b k)] = [D.int .u8 (revF n (i + 1) b k)]
      congr 2
      rw [show ((n : Int) - 1 - i).toNat = n - 1 - i by omega, show (i : Int).toNat = i by omega]
      have e1 : revF n i b i = b i := by rw [revF, if_neg (by omega)]
      have e2 : revF n i b (n - 1 - i) = b (n - 1 - i) := by rw [revF, if_neg (by omega)]
      rw [e1, e2]
      by_cases h1 : k = n - 1 - i
      · rw [if_pos h1, revF, if_pos (by omega), h1, show n - 1 - (n - 1 - i) = i by omega]
      · rw [if_neg h1]
        by_cases h2 : k = i
        · rw [if_pos h2, revF, if_pos (by omega), h2]
        · rw [if_neg h2, revF, revF]
          by_cases h3 : k < i ∨ n ≤ k + i
          · rw [if_pos h3, if_pos (by omega)]
          · rw [if_neg h3, if_neg (by omega)]
  · have h' : ¬ (i : Int) < (n : Int) - 1 - i := by simpa using h
    refine x.exit rfl trivial ?_
    refine ⟨.inl rfl, trivial, ⟨⟨rfl, rfl, rfl, fun k hk => ?_⟩, trivial⟩, rfl⟩
    show [D.int .u8 (revF n i b k)] = [D.int .u8 (b (n - 1 - k))]
    rw [revF]
    split
    · rfl
    · rw [show n - 1 - k = k by omega]
end Go.Proofs.YteeofakohenpoaaGreatDoor

/- The text of a number. -/
namespace Go.Proofs.YteeofakohenpoaaGreatDoor
open Go.Sx
set_option linter.unusedVariables false
set_option linter.unusedSimpArgs false
set_option maxRecDepth 100000

/-- The digits got so far, the last one first. -/
structure SI (u0 : Nat) where
  u : Nat
  l : List Int
  lo : ∀ x ∈ l, 48 ≤ x ∧ x ≤ 57
  same : digs0 u ++ (l.map fun x => UInt8.ofNat x.toNat).reverse = if l = [] then digs0 u0 else digs u0
  first : l = [] → u = u0
  len : l.length ≤ 20 ∧ u < 10 ^ (20 - l.length)

theorem turn_list (l : List Int) : (List.range l.length).map (fun i => UInt8.ofNat (l.getD (l.length - 1 - i) 0).toNat) = (l.map fun x => UInt8.ofNat x.toNat).reverse := by
  apply List.ext_getElem
  · simp
  · intro i h1 h2
    simp at h1
    have : l.length - 1 - i < l.length := by omega
    simp [this]

theorem show_spec (n : Int) (hn : inI64 n) : Pure PG 17 [vi n] (vs (showV n)) [] := by
  refine Proc.mk ⟨34, 0, false, tys⟩ tysOK [] Tryz.func17 rfl (by kernel_rfl) rfl rfl rfl ?_
  intro C x
  unfold inI64 at hn
  refine x.ite (α := Unit) (fun _ => ⟨[(3, .d (.int .u64 (n.natAbs : Int))), (4, vs (ba (sgV n)))], [], 0⟩) rfl trivial (fun h => ?_) (fun h => ?_) (fun _ => ?_)
  · refine x.back rfl trivial ⟨(), ⟨?_, ?_, trivial⟩, trivial, rfl⟩
    · show IntKind.u64.wrap (0 - IntKind.u64.wrap n) = n.natAbs
      have : n < 0 := by simpa using h
      rw [IntKind.wrap_u64, IntKind.wrap_u64]
      omega
    · show _ = ba (sgV n)
      rw [sgV, if_pos (by simpa using h)]
      rfl
  · refine x.back rfl trivial ⟨(), ⟨?_, ?_, trivial⟩, trivial, rfl⟩
    · show IntKind.u64.wrap n = n.natAbs
      have : ¬ n < 0 := by simpa using h
      rw [IntKind.wrap_u64]
      omega
    · show _ = ba (sgV n)
      rw [sgV, if_neg (by simpa using h)]
      rfl
  refine x.toLoop rfl trivial ?_
  refine Go.own 5 5 1 (fun _ => []) rfl ?_
  refine x.loop (α := SI n.natAbs) (fun y => ⟨[(3, .d (.int .u64 (y.u : Int))), (4, vs (ba (sgV n))), (5, .own 0)], [(0, .vec 5 1 y.l.length fun i => [.int .u8 (y.l.getD i 0)])], 1⟩) (fun y => 21 - y.l.length)
    ⟨n.natAbs, [], by simp, by simp, fun _ => rfl, by simp, by show n.natAbs < 100000000000000000000; omega⟩ rfl trivial ?_ (fun y => ?_)
  · exact ⟨⟨rfl, rfl, rfl, trivial⟩, ⟨⟨rfl, rfl, rfl, fun i hi => absurd hi (Nat.not_lt_zero _)⟩, trivial⟩, rfl⟩
  obtain ⟨u, l, lo, same, first, len⟩ := y
  change Go C _ ⟨[(3, .d (.int .u64 (u : Int))), (4, vs (ba (sgV n))), (5, .own 0)], [(0, .vec 5 1 l.length fun i => [.int .u8 (l.getD i 0)])], 1⟩ _
  refine x.cond rfl trivial (fun h => ?_) (fun h => ?_)
  · have h' : 0 < u ∨ l = [] := by
      simp only [Bool.or_eq_true, decide_eq_true_eq] at h
      rcases h with h | h
      · exact .inl (by omega)
      · exact .inr (List.length_eq_zero_iff.1 (by omega))
    have hl : l.length ≤ 19 := by
      rcases h' with h' | rfl
      · refine Classical.byContradiction fun hh => ?_
        have : l.length = 20 := by omega
        rw [this] at len
        simp at len
        omega
      · simp
    refine x.back rfl ?_ ?_
    · simp only [AllP, big]; omega
    have hd : IntKind.u8.wrap (IntKind.u64.wrap (48 + (u : Int).tmod 10)) = 48 + ((u % 10 : Nat) : Int) := by
      rw [IntKind.wrap_u64, IntKind.wrap_u8, Int.tmod_eq_emod_of_nonneg (by omega)]
      omega
    have hq : IntKind.u64.wrap ((u : Int).tdiv 10) = ((u / 10 : Nat) : Int) := by
      have h1 : u < 10 ^ 20 := Nat.lt_of_lt_of_le len.2 (Nat.pow_le_pow_right (by omega) (by omega))
      have h2 : u / 10 < 10000000000000000000 := by omega
      rw [Int.tdiv_eq_ediv_of_nonneg (by omega), IntKind.wrap_u64]
      omega
    refine ⟨⟨u / 10, l ++ [48 + ((u % 10 : Nat) : Int)], ?_, ?_, ?_, ?_⟩, ?_, ⟨?_, rfl, rfl, trivial⟩, ⟨⟨rfl, rfl, ?_, ?_⟩, trivial⟩, rfl⟩
    · intro y hy
      rcases List.mem_append.1 hy with hy | hy
      · exact lo y hy
      · rw [List.mem_singleton.1 hy]; omega
    · rw [if_neg (by simp)]
      simp only [List.map_append, List.map_cons, List.map_nil, List.reverse_append, List.reverse_cons, List.reverse_nil, List.nil_append, List.singleton_append]
      rw [show (48 + ((u % 10 : Nat) : Int)).toNat = 48 + u % 10 by omega]
      rw [show digs0 (u / 10) ++ UInt8.ofNat (48 + u % 10) :: (l.map fun x => UInt8.ofNat x.toNat).reverse = (digs0 (u / 10) ++ [UInt8.ofNat (48 + u % 10)]) ++ (l.map fun x => UInt8.ofNat x.toNat).reverse by simp]
      rw [digs0_app]
      rcases h' with h' | rfl
      · by_cases hl0 : l = []
        · rw [hl0, first hl0]; simp
        · rw [if_neg hl0, digs0, if_neg (by omega)] at same
          exact same
      · rw [first rfl]; simp
    · intro h; simp at h
    · refine ⟨by simp; omega, ?_⟩
      have h1 : 20 - l.length = (19 - l.length) + 1 := by omega
      rw [h1, Nat.pow_succ] at len
      rw [List.length_append, List.length_singleton, show 20 - (l.length + 1) = 19 - l.length by omega]
      omega
    · show 21 - (l ++ [_]).length < 21 - l.length
      simp; omega
    · exact hq
    · show l.length + 1 = (l ++ [_]).length
      simp
    · intro i hi
      have := app_list .u8 l (48 + ((u % 10 : Nat) : Int)) i hi
      refine Eq.trans ?_ this
      show app l.length _ (fun _ => [D.int .u8 (IntKind.u8.wrap (IntKind.u64.wrap (48 + (u : Int).tmod 10)))]) i = _
      rw [hd]
  · have h' : u = 0 ∧ l ≠ [] := by
      simp only [Bool.or_eq_false_iff, decide_eq_false_iff_not] at h
      exact ⟨by omega, fun e => h.2 (by rw [e]; rfl)⟩
    obtain ⟨rfl, hne⟩ := h'
    rw [if_neg hne, digs0, if_pos rfl, List.nil_append] at same
    refine x.call [0] rfl trivial rfl (reverse_spec l.length (fun k => l.getD k 0) (by unfold big; omega)) rfl ⟨rfl, trivial⟩ ⟨⟨rfl, rfl, rfl, fun _ _ => rfl⟩, trivial⟩ ?_
    refine x.exit rfl ?_ ?_
    · refine ⟨fun i hi => trivial, ?_⟩
      show (((ba (sgV n)).size + (bytesOf l.length fun k => [D.int .u8 (l.getD (l.length - 1 - k) 0)]).size : Nat) : Int) ≤ 9223372036854775807
      rw [bytesOf_ba, ba_size, ba_size]
      have : (sgV n).length ≤ 1 := by unfold sgV; split <;> simp
      simp only [List.length_map, List.length_range]
      omega
    refine ⟨.inr rfl, ?_, trivial, rfl⟩
    show ba (sgV n) ++ bytesOf l.length (fun k => [D.int .u8 (l.getD (l.length - 1 - k) 0)]) = showV n
    rw [bytesOf_ba, turn_list, same, ba_app]
    rfl

end Go.Proofs.YteeofakohenpoaaGreatDoor

/- What is written of an instruction. -/
namespace Go.Proofs.YteeofakohenpoaaGreatDoor
open Go.Sx
set_option linter.unusedVariables false
set_option linter.unusedSimpArgs false
set_option maxRecDepth 100000

theorem join_spec (xs : List ByteArray) (sep : ByteArray) (hN : xs.length ≤ okL) (hlen : (joinB xs sep).size ≤ okL) : Pure PG 18 [.d (dStrs xs), vs sep] (vs (joinB xs sep)) [] :=
  Pure.ofJoin (P := PG) Tryz.lays156 Tryz.Builder_Extra_156 (callable_of Tryz.func18 (by kernel_rfl) (by kernel_rfl)) xs sep hN hlen
theorem words_spec (xs : List ByteArray) (hN : xs.length ≤ okL) (hlen : (joinB xs spS).size ≤ okL) : Pure PG 16 [.d (dStrs xs)] (vs (joinB xs spS)) [] := by
  refine Proc.mk (cfg 5) tysOK [] Tryz.func16 rfl (by kernel_rfl) rfl rfl rfl ?_
  intro C x
  refine x.pure rfl trivial rfl (join_spec xs spS hN hlen) ⟨veq_d rfl, rfl, trivial⟩ ?_
  refine x.exit rfl trivial ?_
  exact ⟨.inr rfl, rfl, trivial, rfl⟩
theorem ev2 {α : Type} {f g : Nat → α} (h0 : f 0 = g 0) (h1 : f 1 = g 1) : ∀ i, i < 2 → f i = g i
  | 0, _ => h0
  | 1, _ => h1
  | n + 2, h => by omega
theorem ev3 {α : Type} {f g : Nat → α} (h0 : f 0 = g 0) (h1 : f 1 = g 1) (h2 : f 2 = g 2) : ∀ i, i < 3 → f i = g i
  | 0, _ => h0
  | 1, _ => h1
  | 2, _ => h2
  | n + 3, h => by omega
theorem ev4 {α : Type} {f g : Nat → α} (h0 : f 0 = g 0) (h1 : f 1 = g 1) (h2 : f 2 = g 2) (h3 : f 3 = g 3) : ∀ i, i < 4 → f i = g i
  | 0, _ => h0
  | 1, _ => h1
  | 2, _ => h2
  | 3, _ => h3
  | n + 4, h => by omega
theorem right_len {x : Ins} (h : rightI x = true) {n : Int} {d r a : Bool} (hs : shapeV x.kind = some (n, d, r, a)) (h3 : x.kind ≠ 3) (hn : 0 ≤ n) : (x.args.length : Int) = n := by
  rcases right_cases h with ⟨h1, _⟩ | ⟨n', d', r', a', e, _, hi, _⟩
  · exact absurd h1 h3
  · rw [hs] at e
    obtain ⟨rfl, rfl, rfl, rfl⟩ : n = n' ∧ d = d' ∧ r = r' ∧ a = a' := by simpa using e
    exact hi.alen.1 hn
theorem right_ten {x : Ins} (h : rightI x = true) (h1 : x.kind ≠ 1) (h2 : x.kind ≠ 2) (h3 : x.kind ≠ 3) (h4 : x.kind ≠ 4) (h5 : x.kind ≠ 5) (h6 : x.kind ≠ 6) (h7 : x.kind ≠ 7) (h8 : x.kind ≠ 8) (h9 : x.kind ≠ 9) (h11 : x.kind ≠ 11) (h12 : x.kind ≠ 12) (h13 : x.kind ≠ 13) : x.kind = 10 := by
  rcases right_cases h with ⟨h1, _⟩ | ⟨n', d', r', a', e, _, _⟩
  · exact absurd h1 h3
  · refine Classical.byContradiction fun h10 => ?_
    unfold shapeV at e
    rw [if_neg h1, if_neg h2, if_neg h4, if_neg h5, if_neg h6, if_neg h7, if_neg h8, if_neg h9, if_neg h10, if_neg h11, if_neg h12, if_neg h13] at e
    cases e
theorem sz40 : (⟨#[40]⟩ : ByteArray).size = 1 := rfl
theorem sz41 : (⟨#[41]⟩ : ByteArray).size = 1 := rfl
theorem sz58 : (⟨#[58, 32]⟩ : ByteArray).size = 2 := rfl
theorem sz93 : (⟨#[93]⟩ : ByteArray).size = 1 := rfl
theorem sz112 : (⟨#[112, 104, 105, 32, 91]⟩ : ByteArray).size = 5 := rfl
/-- How far the pairs of a phi are written. -/
structure PhW (n : Nat) where
  i : Nat
  hi : i ≤ n
set_option maxHeartbeats 4000000 in
theorem value_spec (x0 : Ins) (hx : FitI x0) (hr : rightI x0 = true) (h6 : x0.kind ≠ 6) (h9 : x0.kind ≠ 9) (h11 : x0.kind ≠ 11) (h12 : x0.kind ≠ 12) (h13 : x0.kind ≠ 13) : Pure PG 36 [insV x0] (vs (valueP x0)) [] := by
  refine Proc.mk (cfg 102) tysOK [] Tryz.func36 rfl (by kernel_rfl) rfl rfl rfl ?_
  intro C x
  have hs := right_small hr
  have hz := value_size hs hx.num
  have hal := hs.alen
  have hfl := hs.flen
  unfold valueP at hz ⊢
  refine x.cond rfl trivial (fun h1 => ?_) (fun h1 => ?_)
  · have h1 : x0.kind = 1 := of_decide_eq_true h1
    rw [if_pos h1] at hz ⊢
    refine x.pure rfl trivial rfl (show_spec x0.num hx.num) ⟨rfl, trivial⟩ ?_
    refine x.op rfl trivial ?_
    refine Sx.Go.freeze 1 ?_
    refine x.pure rfl trivial rfl (words_spec [⟨#[99, 111, 110, 115, 116]⟩, showV x0.num] (Nat.le_of_ble_eq_true rfl) (by unfold okL; omega)) ⟨⟨rfl, fun _ => rfl, ev2 rfl rfl⟩, trivial⟩ ?_
    refine x.exit rfl trivial ?_
    exact ⟨.inr rfl, rfl, trivial, rfl⟩
  have h1 : ¬ x0.kind = 1 := of_decide_eq_false h1
  rw [if_neg h1] at hz ⊢
  refine x.cond rfl trivial (fun h2 => ?_) (fun h2 => ?_)
  · have h2 : x0.kind = 2 := of_decide_eq_true h2
    rw [if_pos h2] at hz ⊢
    have hl := right_len hr (n := 2) (by rw [h2]; rfl) (by omega) (by omega)
    refine x.draw [] [] [0, 1, 3, 4, 5, 6, 7, 8, 9, 10] [2] [11, 12, 13] rfl trivial mixedP (by kernel_rfl) Ret.noPanic.quiet rfl (by simp only [AllP]; omega) (fun C1 x1 => ?_)
    refine x1.pure rfl trivial rfl (opname_spec x0.op hx.op.1 hx.op.2) ⟨rfl, trivial⟩ ?_
    refine x1.back rfl trivial ?_
    refine x.op rfl trivial ?_
    refine Sx.Go.freeze 1 ?_
    refine x.pure rfl trivial rfl (words_spec [opName x0.op, x0.args.getD 0 .empty, x0.args.getD 1 .empty] (Nat.le_of_ble_eq_true rfl) (by unfold okL; omega)) ⟨⟨rfl, fun _ => rfl, ev3 rfl rfl rfl⟩, trivial⟩ ?_
    refine x.exit rfl trivial ?_
    exact ⟨.inr rfl, rfl, trivial, rfl⟩
  have h2 : ¬ x0.kind = 2 := of_decide_eq_false h2
  rw [if_neg h2] at hz ⊢
  refine x.cond rfl trivial (fun h3 => ?_) (fun h3 => ?_)
  · have h3 : x0.kind = 3 := of_decide_eq_true h3
    rw [if_pos h3] at hz ⊢
    have hlen : x0.frm.length = x0.args.length := by
      rcases right_cases hr with ⟨_, hp⟩ | ⟨n', d', r', a', e, hne, _⟩
      · exact hp.len.1
      · exact absurd h3 hne
    have hj := joinB_size commaS 194 (phiN x0 x0.frm.length) (phi_size hs _)
    rw [phiN_len] at hj
    have hj2 : (joinB (phiN x0 x0.frm.length) commaS).size ≤ 64 * 196 := Nat.le_trans hj (Nat.mul_le_mul_right _ hs.flen)
    refine x.toLoop rfl trivial ?_
    refine Go.own 3 9 1 (fun i => [.str (([] : List ByteArray).getD i .empty)]) rfl ?_
    refine x.loop (α := PhW x0.frm.length) (fun y => ⟨[(1, .ptr 0 0), (3, .own 1), (33, .d (dStrs x0.frm)), (34, vi x0.frm.length), (35, vi (y.i : Int))], [(0, .box [.d (.int .u8 x0.kind), .d (.int .u8 x0.op), vs x0.dst, vs x0.ref, vs x0.alt, .d (dStrs x0.args), .d (dStrs x0.frm), vi x0.num, vi x0.at_]), (1, strC (phiN x0 y.i))], 2⟩) (fun y => x0.frm.length - y.i) ⟨0, Nat.zero_le _⟩ rfl trivial ⟨⟨⟨rfl, rfl⟩, rfl, veq_d rfl, rfl, rfl, trivial⟩, ⟨⟨rfl, rfl, rfl, rfl, rfl, veq0_d rfl, veq0_d rfl, rfl, rfl, trivial⟩, ⟨rfl, rfl, rfl, fun j hj => absurd hj (Nat.not_lt_zero _)⟩, trivial⟩, rfl⟩ (fun y => ?_)
    obtain ⟨i, hi⟩ := y
    change Go C _ ⟨[(1, .ptr 0 0), (3, .own 1), (33, .d (dStrs x0.frm)), (34, vi x0.frm.length), (35, vi (i : Int))], [(0, .box [.d (.int .u8 x0.kind), .d (.int .u8 x0.op), vs x0.dst, vs x0.ref, vs x0.alt, .d (dStrs x0.args), .d (dStrs x0.frm), vi x0.num, vi x0.at_]), (1, strC (phiN x0 i))], 2⟩ _
    refine x.cond rfl trivial (fun h => ?_) (fun h => ?_)
    · have h : (i : Int) < (x0.frm.length : Int) := of_decide_eq_true h
      have g1 := getD_small hs.frm i
      have g2 := getD_small hs.args i
      refine x.back rfl (by simp only [AllP, inI64, big, phiN_len, app_size, sz58, Int.toNat_natCast]; omega) ⟨⟨i + 1, by omega⟩, by show x0.frm.length - (i + 1) < x0.frm.length - i; omega, ⟨⟨rfl, rfl⟩, rfl, veq_d rfl, rfl, ?_, trivial⟩, ⟨⟨rfl, rfl, rfl, rfl, rfl, veq0_d rfl, veq0_d rfl, rfl, rfl, trivial⟩, ⟨rfl, rfl, ?_, fun j hj => ?_⟩, trivial⟩, rfl⟩
      · show VEq0 (vi ((i : Int) + 1)) (vi ((i + 1 : Nat) : Int)); rw [Int.natCast_add]; rfl
      · show (phiN x0 i).length + 1 = (phiN x0 (i + 1)).length
        rw [phiN_len, phiN_len]
      · rw [phiN_succ]
        exact app_str (phiN x0 i) _ j hj
    · have h : ¬ (i : Int) < (x0.frm.length : Int) := of_decide_eq_false h
      obtain rfl : i = x0.frm.length := by omega
      refine Sx.Go.freeze 1 ?_
      refine x.pure rfl trivial rfl (join_spec (phiN x0 x0.frm.length) commaS (by rw [phiN_len]; unfold okL; omega) (by unfold okL; omega)) ⟨veq_d rfl, rfl, trivial⟩ ?_
      refine x.exit rfl (by simp only [AllP, app_size, sz93, sz112]; omega) ?_
      exact ⟨.inr rfl, rfl, trivial, rfl⟩
  have h3 : ¬ x0.kind = 3 := of_decide_eq_false h3
  rw [if_neg h3] at hz ⊢
  refine x.cond rfl trivial (fun h4 => ?_) (fun h4 => ?_)
  · have h4 : x0.kind = 4 := of_decide_eq_true h4
    rw [if_pos h4] at hz ⊢
    have hl := right_len hr (n := 1) (by rw [h4]; rfl) (by omega) (by omega)
    refine x.draw [] [] [0, 1, 2, 3, 4, 5] [] [6, 7, 8] rfl trivial mixedP (by kernel_rfl) Ret.noPanic.quiet rfl (by simp only [AllP]; omega) (fun C1 x1 => ?_)
    refine x.op rfl trivial ?_
    refine Sx.Go.freeze 1 ?_
    refine x.pure rfl trivial rfl (words_spec [⟨#[108, 111, 97, 100]⟩, x0.ref, x0.args.getD 0 .empty] (Nat.le_of_ble_eq_true rfl) (by unfold okL; omega)) ⟨⟨rfl, fun _ => rfl, ev3 rfl rfl rfl⟩, trivial⟩ ?_
    refine x.exit rfl trivial ?_
    exact ⟨.inr rfl, rfl, trivial, rfl⟩
  have h4 : ¬ x0.kind = 4 := of_decide_eq_false h4
  rw [if_neg h4] at hz ⊢
  refine x.cond rfl trivial (fun h5 => ?_) (fun h5 => ?_)
  · have h5 : x0.kind = 5 := of_decide_eq_true h5
    rw [if_pos h5] at hz ⊢
    have hl := right_len hr (n := 1) (by rw [h5]; rfl) (by omega) (by omega)
    refine x.draw [] [] [0, 1, 2, 3, 4, 5] [] [6, 7, 8] rfl trivial mixedP (by kernel_rfl) Ret.noPanic.quiet rfl (by simp only [AllP]; omega) (fun C1 x1 => ?_)
    refine x.op rfl trivial ?_
    refine Sx.Go.freeze 1 ?_
    refine x.pure rfl trivial rfl (words_spec [⟨#[119, 114, 97, 112]⟩, x0.ref, x0.args.getD 0 .empty] (Nat.le_of_ble_eq_true rfl) (by unfold okL; omega)) ⟨⟨rfl, fun _ => rfl, ev3 rfl rfl rfl⟩, trivial⟩ ?_
    refine x.exit rfl trivial ?_
    exact ⟨.inr rfl, rfl, trivial, rfl⟩
  have h5 : ¬ x0.kind = 5 := of_decide_eq_false h5
  rw [if_neg h5] at hz ⊢
  refine x.cond rfl trivial (fun h7 => ?_) (fun h7 => ?_)
  · have h7 : x0.kind = 7 := of_decide_eq_true h7
    rw [if_pos h7] at hz ⊢
    have hj := joinB_size commaS 96 x0.args hs.args
    have hj2 : (joinB x0.args commaS).size ≤ 64 * 98 := Nat.le_trans hj (Nat.mul_le_mul_right _ hs.alen)
    refine x.draw [] [] [0, 1, 2, 3, 4] [5] [6, 7, 8, 9, 10] rfl trivial mixedP (by kernel_rfl) Ret.noPanic.quiet rfl (by have := hs.ref; simp only [AllP, sz40]; omega) (fun C1 x1 => ?_)
    refine x1.pure rfl trivial rfl (join_spec x0.args commaS (by unfold okL; omega) (by unfold okL; omega)) ⟨veq_d rfl, rfl, trivial⟩ ?_
    refine x1.back rfl trivial ?_
    refine x.op rfl (by have := hs.ref; simp only [AllP, app_size, sz40, sz41]; omega) ?_
    refine Sx.Go.freeze 1 ?_
    refine x.pure rfl trivial rfl (words_spec [⟨#[99, 97, 108, 108]⟩, ((x0.ref ++ (⟨#[40]⟩ : ByteArray)) ++ joinB x0.args commaS) ++ (⟨#[41]⟩ : ByteArray)] (Nat.le_of_ble_eq_true rfl) (by unfold okL; omega)) ⟨⟨rfl, fun _ => rfl, ev2 rfl rfl⟩, trivial⟩ ?_
    refine x.exit rfl trivial ?_
    exact ⟨.inr rfl, rfl, trivial, rfl⟩
  have h7 : ¬ x0.kind = 7 := of_decide_eq_false h7
  rw [if_neg h7] at hz ⊢
  refine x.cond rfl trivial (fun h8 => ?_) (fun h8 => ?_)
  · have h8 : x0.kind = 8 := of_decide_eq_true h8
    rw [if_pos h8] at hz ⊢
    refine x.op rfl trivial ?_
    refine Sx.Go.freeze 1 ?_
    refine x.pure rfl trivial rfl (words_spec [⟨#[105, 110, 112, 117, 116]⟩, x0.ref] (Nat.le_of_ble_eq_true rfl) (by unfold okL; omega)) ⟨⟨rfl, fun _ => rfl, ev2 rfl rfl⟩, trivial⟩ ?_
    refine x.exit rfl trivial ?_
    exact ⟨.inr rfl, rfl, trivial, rfl⟩
  have h8 : ¬ x0.kind = 8 := of_decide_eq_false h8
  rw [if_neg h8] at hz ⊢
  have h10 := right_ten hr h1 h2 h3 h4 h5 h6 h7 h8 h9 h11 h12 h13
  have hl := right_len hr (n := 1) (by rw [h10]; rfl) (by omega) (by omega)
  refine x.draw [] [] [0, 1, 2, 3, 4, 5] [] [6, 7, 8] rfl trivial mixedP (by kernel_rfl) Ret.noPanic.quiet rfl (by simp only [AllP]; omega) (fun C1 x1 => ?_)
  refine x.op rfl trivial ?_
  refine Sx.Go.freeze 1 ?_
  refine x.pure rfl trivial rfl (words_spec [⟨#[114, 101, 108, 101, 97, 115, 101]⟩, x0.args.getD 0 .empty, x0.ref] (Nat.le_of_ble_eq_true rfl) (by unfold okL; omega)) ⟨⟨rfl, fun _ => rfl, ev3 rfl rfl rfl⟩, trivial⟩ ?_
  refine x.exit rfl trivial ?_
  exact ⟨.inr rfl, rfl, trivial, rfl⟩
set_option maxHeartbeats 4000000 in
theorem line_spec (x0 : Ins) (hx : FitI x0) (hr : rightI x0 = true) : Pure PG 19 [insV x0] (vs (lineP x0)) [] := by
  refine Proc.mk (cfg 61) tysOK [] Tryz.func19 rfl (by kernel_rfl) rfl rfl rfl ?_
  intro C x
  have hs := right_small hr
  have hz := line_size hs hx.num
  unfold lineP at hz ⊢
  refine x.cond rfl trivial (fun h6 => ?_) (fun h6 => ?_)
  · have h6 : x0.kind = 6 := of_decide_eq_true h6
    rw [if_pos h6] at hz ⊢
    have hl := right_len hr (n := 2) (by rw [h6]; rfl) (by omega) (by omega)
    refine x.draw [] [] [0, 1, 2, 3, 4, 5, 6, 7, 8, 9] [] [10, 11, 12] rfl trivial mixedP (by kernel_rfl) Ret.noPanic.quiet rfl (by simp only [AllP]; omega) (fun C1 x1 => ?_)
    refine x.op rfl trivial ?_
    refine Sx.Go.freeze 1 ?_
    refine x.pure rfl trivial rfl (words_spec [⟨#[115, 116, 111, 114, 101]⟩, x0.ref, x0.args.getD 0 .empty, x0.args.getD 1 .empty] (Nat.le_of_ble_eq_true rfl) (by unfold okL; omega)) ⟨⟨rfl, fun _ => rfl, ev4 rfl rfl rfl rfl⟩, trivial⟩ ?_
    refine x.exit rfl trivial ?_
    exact ⟨.inr rfl, rfl, trivial, rfl⟩
  have h6 : ¬ x0.kind = 6 := of_decide_eq_false h6
  rw [if_neg h6] at hz ⊢
  refine x.cond rfl trivial (fun h9 => ?_) (fun h9 => ?_)
  · have h9 : x0.kind = 9 := of_decide_eq_true h9
    rw [if_pos h9] at hz ⊢
    have hl := right_len hr (n := 1) (by rw [h9]; rfl) (by omega) (by omega)
    refine x.draw [] [] [0, 1, 2, 3, 4, 5] [] [6, 7, 8] rfl trivial mixedP (by kernel_rfl) Ret.noPanic.quiet rfl (by simp only [AllP]; omega) (fun C1 x1 => ?_)
    refine x.op rfl trivial ?_
    refine Sx.Go.freeze 1 ?_
    refine x.pure rfl trivial rfl (words_spec [⟨#[111, 117, 116, 112, 117, 116]⟩, x0.ref, x0.args.getD 0 .empty] (Nat.le_of_ble_eq_true rfl) (by unfold okL; omega)) ⟨⟨rfl, fun _ => rfl, ev3 rfl rfl rfl⟩, trivial⟩ ?_
    refine x.exit rfl trivial ?_
    exact ⟨.inr rfl, rfl, trivial, rfl⟩
  have h9 : ¬ x0.kind = 9 := of_decide_eq_false h9
  rw [if_neg h9] at hz ⊢
  refine x.cond rfl trivial (fun h11 => ?_) (fun h11 => ?_)
  · have h11 : x0.kind = 11 := of_decide_eq_true h11
    rw [if_pos h11] at hz ⊢
    refine x.op rfl trivial ?_
    refine Sx.Go.freeze 1 ?_
    refine x.pure rfl trivial rfl (words_spec [⟨#[106, 117, 109, 112]⟩, x0.ref] (Nat.le_of_ble_eq_true rfl) (by unfold okL; omega)) ⟨⟨rfl, fun _ => rfl, ev2 rfl rfl⟩, trivial⟩ ?_
    refine x.exit rfl trivial ?_
    exact ⟨.inr rfl, rfl, trivial, rfl⟩
  have h11 : ¬ x0.kind = 11 := of_decide_eq_false h11
  rw [if_neg h11] at hz ⊢
  refine x.cond rfl trivial (fun h12 => ?_) (fun h12 => ?_)
  · have h12 : x0.kind = 12 := of_decide_eq_true h12
    rw [if_pos h12] at hz ⊢
    have hl := right_len hr (n := 1) (by rw [h12]; rfl) (by omega) (by omega)
    refine x.draw [] [] [0, 1, 2, 3, 4, 5, 6, 7] [] [8, 9, 10] rfl trivial mixedP (by kernel_rfl) Ret.noPanic.quiet rfl (by simp only [AllP]; omega) (fun C1 x1 => ?_)
    refine x.op rfl trivial ?_
    refine Sx.Go.freeze 1 ?_
    refine x.pure rfl trivial rfl (words_spec [⟨#[98, 114, 97, 110, 99, 104]⟩, x0.args.getD 0 .empty, x0.ref, x0.alt] (Nat.le_of_ble_eq_true rfl) (by unfold okL; omega)) ⟨⟨rfl, fun _ => rfl, ev4 rfl rfl rfl rfl⟩, trivial⟩ ?_
    refine x.exit rfl trivial ?_
    exact ⟨.inr rfl, rfl, trivial, rfl⟩
  have h12 : ¬ x0.kind = 12 := of_decide_eq_false h12
  rw [if_neg h12] at hz ⊢
  refine x.cond rfl trivial (fun h13 => ?_) (fun h13 => ?_)
  · have h13 : x0.kind = 13 := of_decide_eq_true h13
    rw [if_pos h13] at hz ⊢
    have hl := right_len hr (n := 1) (by rw [h13]; rfl) (by omega) (by omega)
    refine x.op rfl (by simp only [AllP]; omega) ?_
    refine Sx.Go.freeze 1 ?_
    refine x.pure rfl trivial rfl (words_spec [⟨#[114, 101, 116, 117, 114, 110]⟩, x0.args.getD 0 .empty] (Nat.le_of_ble_eq_true rfl) (by unfold okL; omega)) ⟨⟨rfl, fun _ => rfl, ev2 rfl rfl⟩, trivial⟩ ?_
    refine x.exit rfl trivial ?_
    exact ⟨.inr rfl, rfl, trivial, rfl⟩
  have h13 : ¬ x0.kind = 13 := of_decide_eq_false h13
  rw [if_neg h13] at hz ⊢
  refine x.draw [] [] [0, 1, 2] [3] [4, 5, 6] rfl trivial mixedP (by kernel_rfl) Ret.noPanic.quiet rfl trivial (fun C1 x1 => ?_)
  refine x1.pure rfl trivial rfl (value_spec x0 hx hr h6 h9 h11 h12 h13) ⟨⟨rfl, rfl, rfl, rfl, rfl, veq0_d rfl, veq0_d rfl, rfl, rfl, trivial⟩, trivial⟩ ?_
  refine x1.back rfl trivial ?_
  refine x.op rfl trivial ?_
  refine Sx.Go.freeze 1 ?_
  refine x.pure rfl trivial rfl (words_spec [x0.dst, ⟨#[61]⟩, valueP x0] (Nat.le_of_ble_eq_true rfl) (by unfold okL; omega)) ⟨⟨rfl, fun _ => rfl, ev3 rfl rfl rfl⟩, trivial⟩ ?_
  refine x.exit rfl trivial ?_
  exact ⟨.inr rfl, rfl, trivial, rfl⟩
/-- What Line gives: the text, and the error. -/
def lineR (x : Ins) : ByteArray × Int := if rightI x = true then (lineP x, 0) else (.empty, 1)
theorem lineFn_spec (x0 : Ins) (hx : FitI x0) : Pure PG 11 [insV x0] (.tup [vs (lineR x0).1, vi (lineR x0).2]) [] := by
  refine Proc.mk (cfg 9) tysOK [] Tryz.func11 rfl (by kernel_rfl) rfl rfl rfl ?_
  intro C x
  refine x.pure rfl trivial rfl (right_spec x0 hx) ⟨⟨rfl, rfl, rfl, rfl, rfl, veq0_d rfl, veq0_d rfl, rfl, rfl, trivial⟩, trivial⟩ ?_
  unfold lineR
  refine x.cond rfl trivial (fun h => ?_) (fun h => ?_)
  · have h : (!rightI x0) = true := h
    rw [if_neg (by simpa using h)]
    refine x.exit rfl trivial ?_
    exact ⟨.inr rfl, ⟨rfl, rfl, trivial⟩, trivial, rfl⟩
  · have h : (!rightI x0) = false := h
    have h : rightI x0 = true := by simpa using h
    rw [if_pos h]
    refine x.pure rfl trivial rfl (line_spec x0 hx h) ⟨⟨rfl, rfl, rfl, rfl, rfl, veq0_d rfl, veq0_d rfl, rfl, rfl, trivial⟩, trivial⟩ ?_
    refine x.exit rfl trivial ?_
    exact ⟨.inr rfl, ⟨rfl, rfl, trivial⟩, trivial, rfl⟩
end Go.Proofs.YteeofakohenpoaaGreatDoor

/- May a function, a program be? -/
namespace Go.Proofs.YteeofakohenpoaaGreatDoor
open Go.Sx
set_option linter.unusedVariables false
set_option linter.unusedSimpArgs false
set_option maxRecDepth 100000

theorem all_allF {α : Type} (l : List α) (p : α → Bool) (d : α) : allF (fun i => p (l.getD i d)) l.length 0 = l.all p := by
  rw [Bool.eq_iff_iff, allF_iff, List.all_eq_true]
  constructor
  · intro h x hx
    obtain ⟨i, hi, rfl⟩ := List.getElem_of_mem hx
    have := h i (Nat.zero_le _) (by omega)
    rwa [List.getD_eq_getElem?_getD, List.getElem?_eq_getElem hi] at this
  · intro h j _ hj
    exact h _ (getD_mem (by omega))
theorem sum_mem {l : List Nat} {a : Nat} (h : a ∈ l) : a ≤ l.sum := by
  induction l with
  | nil => cases h
  | cons b r ih =>
    rw [List.sum_cons]
    rcases List.mem_cons.1 h with rfl | h
    · omega
    · have := ih h; omega
def sumC (bs : List Blk) (i : Nat) : Nat := ((bs.take i).map fun b => b.code.length).sum
theorem sumC_succ {bs : List Blk} {i : Nat} (h : i < bs.length) : sumC bs (i + 1) = sumC bs i + (bs.getD i blk0).code.length := by
  unfold sumC
  rw [List.take_succ_eq_append_getElem h, List.map_append, List.sum_append, List.getD_eq_getElem?_getD, List.getElem?_eq_getElem h]
  simp
theorem sumC_le {bs : List Blk} {k : Nat} (h : ∀ b, b ∈ bs → b.code.length ≤ k) : ∀ i, i ≤ bs.length → sumC bs i ≤ i * k
  | 0, _ => by simp [sumC]
  | i + 1, hi => by
    have := sumC_le h i (by omega)
    have h2 := h _ (getD_mem (d := blk0) (show i < bs.length by omega))
    rw [sumC_succ (by omega), Nat.succ_mul]
    omega
structure FitB (b : Blk) : Prop where
  name : b.name.size ≤ okL
  len : b.code.length ≤ bigL
  code : ∀ x, x ∈ b.code → FitI x
structure FitF (f : Fun) : Prop where
  name : f.name.size ≤ okL
  plen : f.params.length ≤ bigN
  params : ∀ a, a ∈ f.params → a.size ≤ okL
  blen : f.blocks.length ≤ bigL
  blocks : ∀ b, b ∈ f.blocks → FitB b
structure FitA (a : Arr) : Prop where
  name : a.name.size ≤ okL
  level : a.level.size ≤ okL
  size : inI64 a.size
structure FitP (p : Prg) : Prop where
  alen : p.arrays.length ≤ bigL
  arrays : ∀ a, a ∈ p.arrays → FitA a
  flen : p.funcs.length ≤ bigL
  funcs : ∀ f, f ∈ p.funcs → FitF f
def fN (f : Fun) : Nat := (f.blocks.map fun b => b.code.length).sum
theorem sumC_all (f : Fun) : sumC f.blocks f.blocks.length = fN f := by unfold sumC fN; rw [List.take_length]
def funR (f : Fun) : Int × Bool := if funOK f = true then ((fN f : Int), true) else (0, false)
set_option maxHeartbeats 4000000 in
theorem function_spec (f : Fun) (hf : FitF f) : Pure PG 25 [fnV f] (.tup [vi (funR f).1, vb (funR f).2]) [] := by
  refine Proc.mk (cfg 66) tysOK [] Tryz.func25 rfl (by kernel_rfl) rfl rfl rfl ?_
  intro C x
  obtain ⟨f1, f2, f3, f4, f5⟩ := hf
  have f4' := f4
  unfold bigL at f4'
  refine x.pure rfl trivial rfl (pname_spec f.name f1) ⟨rfl, trivial⟩ ?_
  refine x.pureG rfl trivial rfl (fun _ => pnames_spec f.params f2 f3) rfl ⟨veq_d rfl, trivial⟩ ?_
  have ec : (!okN f.name || !allN f.params || decide (6 < f.params.length) || decide (f.blocks.length < 1) || decide (64 < f.blocks.length)) = (((((!okN f.name || !allN f.params) || decide ((6 : Int) < f.params.length)) || decide ((f.blocks.length : Int) < 1))) || decide ((64 : Int) < f.blocks.length)) := by
    rw [show decide ((6 : Int) < f.params.length) = decide (6 < f.params.length) by rw [decide_eq_decide]; omega, show decide ((f.blocks.length : Int) < 1) = decide (f.blocks.length < 1) by rw [decide_eq_decide]; omega, show decide ((64 : Int) < f.blocks.length) = decide (64 < f.blocks.length) by rw [decide_eq_decide]; omega]
  refine x.cond rfl trivial (fun h => ?_) (fun h => ?_)
  · have h : (((((!okN f.name || !allN f.params) || decide ((6 : Int) < f.params.length)) || decide ((f.blocks.length : Int) < 1))) || decide ((64 : Int) < f.blocks.length)) = true := h
    have hF : funOK f = false := by unfold funOK; rw [ec, h]; rfl
    refine x.exit rfl trivial ?_
    unfold funR
    rw [hF]
    exact ⟨.inr rfl, ⟨rfl, rfl, trivial⟩, trivial, rfl⟩
  have h : (((((!okN f.name || !allN f.params) || decide ((6 : Int) < f.params.length)) || decide ((f.blocks.length : Int) < 1))) || decide ((64 : Int) < f.blocks.length)) = false := h
  have h64 : f.blocks.length ≤ 64 := by
    simp only [Bool.or_eq_false_iff, decide_eq_false_iff_not] at h
    omega
  obtain ⟨R, hR⟩ : ∃ R, f.blocks.all blkOK = R := ⟨_, rfl⟩
  have hF : funOK f = R := by unfold funOK; rw [ec, h, hR]; simp
  have hR2 : allF (fun i => blkOK (f.blocks.getD i blk0)) f.blocks.length 0 = R := by rw [all_allF]; exact hR
  have bad : R = false → funR f = (0, false) := fun e => by unfold funR; rw [hF, e]; rfl
  have good : R = true → funR f = ((fN f : Int), true) := fun e => by unfold funR; rw [hF, e]; rfl
  clear h ec
  have hsum := sumC_le (k := bigL) (fun b hb => (f5 b hb).len)
  unfold bigL at hsum
  refine x.loop (α := AW (fun i => blkOK (f.blocks.getD i blk0)) f.blocks.length R) (fun y => ⟨[(1, .ptr 0 0), (4, vi (sumC f.blocks y.i)), (38, .d (dBlks f.blocks)), (39, vi f.blocks.length), (40, vi (y.i : Int))], [(0, .box [vs f.name, .d (dStrs f.params), .d (dBlks f.blocks), vi f.at_])], 1⟩) (fun y => f.blocks.length - y.i) ⟨0, Nat.zero_le _, hR2⟩ rfl trivial ⟨⟨⟨rfl, rfl⟩, rfl, veq_d rfl, rfl, rfl, trivial⟩, ⟨⟨rfl, veq0_d rfl, veq0_d rfl, rfl, trivial⟩, trivial⟩, rfl⟩ (fun y => ?_)
  obtain ⟨i, hi, same⟩ := y
  change Go C _ ⟨[(1, .ptr 0 0), (4, vi (sumC f.blocks i)), (38, .d (dBlks f.blocks)), (39, vi f.blocks.length), (40, vi (i : Int))], [(0, .box [vs f.name, .d (dStrs f.params), .d (dBlks f.blocks), vi f.at_])], 1⟩ _
  refine x.cond rfl trivial (fun h2 => ?_) (fun h2 => ?_)
  rotate_left
  · have h2 : ¬ (i : Int) < (f.blocks.length : Int) := of_decide_eq_false h2
    refine x.exit rfl trivial ?_
    rw [good (AW.fin (by omega) hi same)]
    obtain rfl : i = f.blocks.length := by omega
    rw [← sumC_all]
    exact ⟨.inr rfl, ⟨rfl, rfl, trivial⟩, trivial, rfl⟩
  have h2 : (i : Int) < (f.blocks.length : Int) := of_decide_eq_true h2
  have h2 : i < f.blocks.length := by omega
  have hb := f5 _ (getD_mem (d := blk0) h2)
  have hs2 := sumC_succ h2
  have hs3 := hsum i hi
  have hs4 : i * 1000000000000 ≤ 64 * 1000000000000 := Nat.mul_le_mul_right _ (by omega)
  have hfi : ∀ v, blkOK (f.blocks.getD i blk0) = v → (fun i => blkOK (f.blocks.getD i blk0)) i = v := fun v h => h
  have ei : ((i : Int).toNat) = i := Int.toNat_natCast i
  obtain ⟨b, hbe⟩ : ∃ b, f.blocks.getD i blk0 = b := ⟨_, rfl⟩
  have hbe2 : f.blocks.getD ((i : Int).toNat) blk0 = b := by rw [ei]; exact hbe
  rw [hbe] at hb hs2 hfi
  obtain ⟨b1, b2, b3⟩ := hb
  unfold bigL at b2
  refine x.pure rfl (by simp only [AllP]; omega) rfl (show Pure PG _ [vs (f.blocks.getD ((i : Int).toNat) blk0).name] _ [] from by rw [hbe2]; exact pname_spec b.name b1) ⟨rfl, trivial⟩ ?_
  refine x.cond rfl trivial (fun h3 => ?_) (fun h3 => ?_)
  · have h3 : (!okN b.name) = true := h3
    have hv : blkOK b = false := by unfold blkOK; rw [show okN b.name = false by simpa using h3]; rfl
    refine x.exit rfl trivial ?_
    rw [bad (AW.stop h2 same (hfi _ hv))]
    exact ⟨.inr rfl, ⟨rfl, rfl, trivial⟩, trivial, rfl⟩
  have h3 : (!okN b.name) = false := h3
  obtain ⟨Q, hQ⟩ : ∃ Q, b.code.all rightI = Q := ⟨_, rfl⟩
  have hv : blkOK b = Q := by unfold blkOK; rw [show okN b.name = true by simpa using h3, hQ]; rfl
  have hQ2 : allF (fun i => rightI (b.code.getD i (ins0 0))) b.code.length 0 = Q := by rw [all_allF]; exact hQ
  rw [hv] at hfi
  rw [hbe2]
  refine x.loop (α := AW (fun i => rightI (b.code.getD i (ins0 0))) b.code.length Q) (fun y => ⟨[(1, .ptr 0 0), (4, vi (sumC f.blocks i)), (38, .d (dBlks f.blocks)), (39, vi f.blocks.length), (40, vi (i : Int)), (6, .ptr 1 0), (49, .d (dCode b.code)), (50, vi b.code.length), (51, vi (y.i : Int))], [(0, .box [vs f.name, .d (dStrs f.params), .d (dBlks f.blocks), vi f.at_]), (1, .box [vs b.name, .d (dCode b.code), vi b.at_])], 2⟩) (fun y => b.code.length - y.i) ⟨0, Nat.zero_le _, hQ2⟩ rfl trivial ⟨⟨⟨rfl, rfl⟩, rfl, veq_d rfl, rfl, rfl, ⟨rfl, rfl⟩, veq_d rfl, rfl, rfl, trivial⟩, ⟨⟨rfl, veq0_d rfl, veq0_d rfl, rfl, trivial⟩, ⟨rfl, veq0_d rfl, rfl, trivial⟩, trivial⟩, rfl⟩ (fun y => ?_)
  obtain ⟨k, hk, same2⟩ := y
  change Go C _ ⟨[(1, .ptr 0 0), (4, vi (sumC f.blocks i)), (38, .d (dBlks f.blocks)), (39, vi f.blocks.length), (40, vi (i : Int)), (6, .ptr 1 0), (49, .d (dCode b.code)), (50, vi b.code.length), (51, vi (k : Int))], [(0, .box [vs f.name, .d (dStrs f.params), .d (dBlks f.blocks), vi f.at_]), (1, .box [vs b.name, .d (dCode b.code), vi b.at_])], 2⟩ _
  refine x.cond rfl trivial (fun h4 => ?_) (fun h4 => ?_)
  rotate_left
  · have h4 : ¬ (k : Int) < (b.code.length : Int) := of_decide_eq_false h4
    have hv := AW.fin (by omega) hk same2
    refine x.back rfl (by simp only [AllP, inI64]; omega) ⟨⟨i + 1, by omega, AW.step h2 same (hfi _ hv)⟩, by show f.blocks.length - (i + 1) < f.blocks.length - i; omega, ⟨⟨rfl, rfl⟩, ?_, veq_d rfl, rfl, ?_, trivial⟩, ⟨⟨rfl, veq0_d rfl, veq0_d rfl, rfl, trivial⟩, trivial⟩, rfl⟩
    · show VEq0 (vi ((sumC f.blocks i : Int) + b.code.length)) (vi (sumC f.blocks (i + 1) : Int))
      rw [hs2, Int.natCast_add]; rfl
    · show VEq0 (vi ((i : Int) + 1)) (vi ((i + 1 : Nat) : Int)); rw [Int.natCast_add]; rfl
  have h4 : (k : Int) < (b.code.length : Int) := of_decide_eq_true h4
  have h4 : k < b.code.length := by omega
  refine x.pure rfl (by simp only [AllP]; omega) rfl (right_spec (b.code.getD ((k : Int).toNat) (ins0 0)) (by rw [Int.toNat_natCast]; exact b3 _ (getD_mem h4))) ⟨⟨rfl, rfl, rfl, rfl, rfl, veq0_d rfl, veq0_d rfl, rfl, rfl, trivial⟩, trivial⟩ ?_
  rw [Int.toNat_natCast]
  refine x.cond rfl trivial (fun h5 => ?_) (fun h5 => ?_)
  · have h5 : (!rightI (b.code.getD k (ins0 0))) = true := h5
    refine x.exit rfl trivial ?_
    rw [bad (AW.stop h2 same (hfi _ (AW.stop h4 same2 (by simpa using h5))))]
    exact ⟨.inr rfl, ⟨rfl, rfl, trivial⟩, trivial, rfl⟩
  · have h5 : (!rightI (b.code.getD k (ins0 0))) = false := h5
    refine x.back rfl (by simp only [AllP, inI64]; omega) ⟨⟨k + 1, by omega, AW.step h4 same2 (by simpa using h5)⟩, by show b.code.length - (k + 1) < b.code.length - k; omega, ⟨⟨rfl, rfl⟩, rfl, veq_d rfl, rfl, rfl, ⟨rfl, rfl⟩, veq_d rfl, rfl, ?_, trivial⟩, ⟨⟨rfl, veq0_d rfl, veq0_d rfl, rfl, trivial⟩, ⟨rfl, veq0_d rfl, rfl, trivial⟩, trivial⟩, rfl⟩
    show VEq0 (vi ((k : Int) + 1)) (vi ((k + 1 : Nat) : Int)); rw [Int.natCast_add]; rfl
/-! ### programs -/
def sumF (fs : List Fun) (i : Nat) : Nat := ((fs.take i).map fN).sum
theorem sumF_succ {fs : List Fun} {i : Nat} (h : i < fs.length) : sumF fs (i + 1) = sumF fs i + fN (fs.getD i fun0) := by
  unfold sumF
  rw [List.take_succ_eq_append_getElem h, List.map_append, List.sum_append, List.getD_eq_getElem?_getD, List.getElem?_eq_getElem h]
  simp
theorem sumF_le (fs : List Fun) (i : Nat) : sumF fs i ≤ progN8 fs := by
  have h : progN8 fs = ((fs.take i ++ fs.drop i).map fN).sum := by rw [List.take_append_drop]; rfl
  rw [h, List.map_append, List.sum_append]
  exact Nat.le_add_right _ _
theorem sumF_all (fs : List Fun) : sumF fs fs.length = progN8 fs := by unfold sumF; rw [List.take_length]; rfl
/-- How far functions may be. -/
structure RW (fs : List Fun) where
  i : Nat
  hi : i ≤ fs.length
  ok : ∀ j, j < i → funOK (fs.getD j fun0) = true
  few : sumF fs i ≤ 4096
theorem fN_le {f : Fun} (hf : FitF f) (h : funOK f = true) : fN f ≤ 64 * 1000000000000 := by
  have h64 : f.blocks.length ≤ 64 := by
    unfold funOK at h
    simp only [Bool.and_eq_true, Bool.not_eq_true', Bool.or_eq_false_iff, decide_eq_false_iff_not] at h
    omega
  have := sumC_le (k := bigL) (fun b hb => (hf.blocks b hb).len) f.blocks.length (Nat.le_refl _)
  rw [sumC_all] at this
  unfold bigL at this
  exact Nat.le_trans this (Nat.mul_le_mul_right _ h64)
set_option maxHeartbeats 4000000 in
theorem rightp_spec (p : Prg) (hp : FitP p) : Pure PG 8 [prgV p] (vb (rightP p)) [] := by
  refine Proc.mk (cfg 70) tysOK [] Tryz.func8 rfl (by kernel_rfl) rfl rfl rfl ?_
  intro C x
  obtain ⟨p1, p2, p3, p4⟩ := hp
  unfold bigL at p1 p3
  have ec : (decide (16 < p.arrays.length) || decide (64 < p.funcs.length)) = (decide ((16 : Int) < p.arrays.length) || decide ((64 : Int) < p.funcs.length)) := by
    rw [show decide ((16 : Int) < p.arrays.length) = decide (16 < p.arrays.length) by rw [decide_eq_decide]; omega, show decide ((64 : Int) < p.funcs.length) = decide (64 < p.funcs.length) by rw [decide_eq_decide]; omega]
  refine x.cond rfl trivial (fun h => ?_) (fun h => ?_)
  · have h : (decide ((16 : Int) < p.arrays.length) || decide ((64 : Int) < p.funcs.length)) = true := h
    refine x.exit rfl trivial ?_
    refine ⟨.inr rfl, ?_, trivial, rfl⟩
    show false = rightP p
    unfold rightP
    rw [ec, h]; rfl
  have h : (decide ((16 : Int) < p.arrays.length) || decide ((64 : Int) < p.funcs.length)) = false := h
  obtain ⟨R, hR⟩ : ∃ R, p.arrays.all arrOK = R := ⟨_, rfl⟩
  have hF : rightP p = (R && p.funcs.all funOK && decide (progN8 p.funcs ≤ 4096)) := by unfold rightP; rw [ec, h, hR]; rfl
  have hR2 : allF (fun i => arrOK (p.arrays.getD i arr0)) p.arrays.length 0 = R := by rw [all_allF]; exact hR
  rw [hF]
  have h64 : p.funcs.length ≤ 64 := by
    simp only [Bool.or_eq_false_iff, decide_eq_false_iff_not] at h
    omega
  clear h ec hF
  refine x.loop (α := AW (fun i => arrOK (p.arrays.getD i arr0)) p.arrays.length R) (fun y => ⟨[(1, .ptr 0 0), (21, .d (dArrs p.arrays)), (22, vi p.arrays.length), (23, vi (y.i : Int))], [(0, .box [.d (dArrs p.arrays), .d (dFuns p.funcs)])], 1⟩) (fun y => p.arrays.length - y.i) ⟨0, Nat.zero_le _, hR2⟩ rfl trivial ⟨⟨⟨rfl, rfl⟩, veq_d rfl, rfl, rfl, trivial⟩, ⟨⟨veq0_d rfl, veq0_d rfl, trivial⟩, trivial⟩, rfl⟩ (fun y => ?_)
  obtain ⟨i, hi, same⟩ := y
  change Go C _ ⟨[(1, .ptr 0 0), (21, .d (dArrs p.arrays)), (22, vi p.arrays.length), (23, vi (i : Int))], [(0, .box [.d (dArrs p.arrays), .d (dFuns p.funcs)])], 1⟩ _
  refine x.cond rfl trivial (fun h2 => ?_) (fun h2 => ?_)
  · have h2 : (i : Int) < (p.arrays.length : Int) := of_decide_eq_true h2
    have h2 : i < p.arrays.length := by omega
    have ei : ((i : Int).toNat) = i := Int.toNat_natCast i
    have ha := p2 _ (getD_mem (d := arr0) h2)
    have hfi : ∀ v, arrOK (p.arrays.getD i arr0) = v → (fun i => arrOK (p.arrays.getD i arr0)) i = v := fun v h => h
    obtain ⟨a, hae⟩ : ∃ a, p.arrays.getD i arr0 = a := ⟨_, rfl⟩
    have hae2 : p.arrays.getD ((i : Int).toNat) arr0 = a := by rw [ei]; exact hae
    rw [hae] at ha hfi
    refine x.pure rfl (by simp only [AllP]; omega) rfl (show Pure PG _ [vs (p.arrays.getD ((i : Int).toNat) arr0).name] _ [] from by rw [hae2]; exact pname_spec a.name ha.name) ⟨rfl, trivial⟩ ?_
    rw [hae2]
    refine x.pureG rfl trivial rfl (fun _ => pname_spec a.level ha.level) rfl ⟨rfl, trivial⟩ ?_
    refine x.cond rfl trivial (fun h3 => ?_) (fun h3 => ?_)
    · have h3 : (((!okN a.name || !okN a.level) || decide (a.size < 1)) || decide (256 < a.size)) = true := h3
      have hv : arrOK a = false := by unfold arrOK; rw [h3]; rfl
      refine x.exit rfl trivial ?_
      rw [AW.stop h2 same (hfi _ hv)]
      exact ⟨.inr rfl, rfl, trivial, rfl⟩
    · have h3 : (((!okN a.name || !okN a.level) || decide (a.size < 1)) || decide (256 < a.size)) = false := h3
      have hv : arrOK a = true := by unfold arrOK; rw [h3]; rfl
      refine x.back rfl (by simp only [AllP, inI64]; omega) ⟨⟨i + 1, by omega, AW.step h2 same (hfi _ hv)⟩, by show p.arrays.length - (i + 1) < p.arrays.length - i; omega, ⟨⟨rfl, rfl⟩, veq_d rfl, rfl, ?_, trivial⟩, ⟨⟨veq0_d rfl, veq0_d rfl, trivial⟩, trivial⟩, rfl⟩
      show VEq0 (vi ((i : Int) + 1)) (vi ((i + 1 : Nat) : Int)); rw [Int.natCast_add]; rfl
  have h2 : ¬ (i : Int) < (p.arrays.length : Int) := of_decide_eq_false h2
  have eR := AW.fin (by omega) hi same
  subst eR
  refine x.loop (α := RW p.funcs) (fun y => ⟨[(1, .ptr 0 0), (5, vi (sumF p.funcs y.i)), (49, .d (dFuns p.funcs)), (50, vi p.funcs.length), (51, vi (y.i : Int))], [(0, .box [.d (dArrs p.arrays), .d (dFuns p.funcs)])], 1⟩) (fun y => p.funcs.length - y.i) ⟨0, Nat.zero_le _, fun j hj => by omega, by simp [sumF]⟩ rfl trivial ⟨⟨⟨rfl, rfl⟩, rfl, veq_d rfl, rfl, rfl, trivial⟩, ⟨⟨veq0_d rfl, veq0_d rfl, trivial⟩, trivial⟩, rfl⟩ (fun y => ?_)
  obtain ⟨k, hk, ok, few⟩ := y
  change Go C _ ⟨[(1, .ptr 0 0), (5, vi (sumF p.funcs k)), (49, .d (dFuns p.funcs)), (50, vi p.funcs.length), (51, vi (k : Int))], [(0, .box [.d (dArrs p.arrays), .d (dFuns p.funcs)])], 1⟩ _
  refine x.cond rfl trivial (fun h3 => ?_) (fun h3 => ?_)
  rotate_left
  · have h3 : ¬ (k : Int) < (p.funcs.length : Int) := of_decide_eq_false h3
    obtain rfl : k = p.funcs.length := by omega
    refine x.exit rfl trivial ?_
    have e1 : p.funcs.all funOK = true := by
      rw [← all_allF p.funcs funOK fun0, allF_iff]
      exact fun j _ hj => ok j (by omega)
    rw [sumF_all] at few
    rw [e1, decide_eq_true few]
    exact ⟨.inr rfl, rfl, trivial, rfl⟩
  have h3 : (k : Int) < (p.funcs.length : Int) := of_decide_eq_true h3
  have h3 : k < p.funcs.length := by omega
  have hff := p4 _ (getD_mem (d := fun0) h3)
  have hs := sumF_succ h3
  obtain ⟨f, hfe⟩ : ∃ f, p.funcs.getD k fun0 = f := ⟨_, rfl⟩
  have hfe2 : p.funcs.getD ((k : Int).toNat) fun0 = f := by rw [Int.toNat_natCast]; exact hfe
  rw [hfe] at hff hs
  refine x.pure rfl (by simp only [AllP]; omega) rfl (show Pure PG _ [fnV (p.funcs.getD ((k : Int).toNat) fun0)] _ [] from by rw [hfe2]; exact function_spec f hff) ⟨⟨rfl, veq0_d rfl, veq0_d rfl, rfl, trivial⟩, trivial⟩ ?_
  rw [hfe2]
  have hin : f ∈ p.funcs := by rw [← hfe]; exact getD_mem h3
  cases hok : funOK f with
  | false =>
    have eR : funR f = (0, false) := by unfold funR; rw [hok]; rfl
    have e1 : p.funcs.all funOK = false := by
      rw [Bool.eq_false_iff, Ne, List.all_eq_true]
      intro h; rw [h f hin] at hok; cases hok
    rw [eR, e1]
    refine x.cond rfl (by simp only [AllP, inI64]; omega) (fun h4 => ?_) (fun h4 => ?_)
    · refine x.exit rfl trivial ?_
      exact ⟨.inr rfl, rfl, trivial, rfl⟩
    · have h4 : (!false || _) = false := h4
      simp at h4
  | true =>
    have eR : funR f = ((fN f : Int), true) := by unfold funR; rw [hok]; rfl
    have hN := fN_le hff hok
    rw [eR]
    refine x.cond rfl (by simp only [AllP, inI64]; omega) (fun h4 => ?_) (fun h4 => ?_)
    · have h4 : (!true || decide ((4096 : Int) < (sumF p.funcs k : Int) + (fN f : Int))) = true := h4
      have h4 : (4096 : Int) < (sumF p.funcs k : Int) + (fN f : Int) := by simpa using h4
      have hle := sumF_le p.funcs (k + 1)
      refine x.exit rfl trivial ?_
      rw [decide_eq_false (show ¬ progN8 p.funcs ≤ 4096 by omega), Bool.and_false]
      exact ⟨.inr rfl, rfl, trivial, rfl⟩
    · have h4 : (!true || decide ((4096 : Int) < (sumF p.funcs k : Int) + (fN f : Int))) = false := h4
      have h4 : ¬ (4096 : Int) < (sumF p.funcs k : Int) + (fN f : Int) := by simpa using h4
      refine x.back rfl (by simp only [AllP, inI64]; omega) ⟨⟨k + 1, by omega, fun j hj => ?_, by omega⟩, by show p.funcs.length - (k + 1) < p.funcs.length - k; omega, ⟨⟨rfl, rfl⟩, ?_, veq_d rfl, rfl, ?_, trivial⟩, ⟨⟨veq0_d rfl, veq0_d rfl, trivial⟩, trivial⟩, rfl⟩
      · by_cases e : j = k
        · rw [e, hfe]; exact hok
        · exact ok j (by omega)
      · show VEq0 (vi ((sumF p.funcs k : Int) + (fN f : Int))) (vi (sumF p.funcs (k + 1) : Int))
        rw [hs, Int.natCast_add]; rfl
      · show VEq0 (vi ((k : Int) + 1)) (vi ((k + 1 : Nat) : Int)); rw [Int.natCast_add]; rfl
end Go.Proofs.YteeofakohenpoaaGreatDoor

/- What is written of a program. -/
namespace Go.Proofs.YteeofakohenpoaaGreatDoor
open Go.Sx
set_option linter.unusedVariables false
set_option linter.unusedSimpArgs false
set_option maxRecDepth 100000

/-! ### how long -/
theorem put_size (acc l : ByteArray) : (putP acc l).size = acc.size + (l.size + 1) := by
  unfold putP
  rw [app_size, app_size]
  rfl
theorem textA_size {k : Nat} : ∀ (l : List Arr) (acc : ByteArray), (∀ a, a ∈ l → (arrLine a).size ≤ k) → (textA acc l).size ≤ acc.size + l.length * (k + 1)
  | [], acc, h => by show acc.size ≤ _; omega
  | a :: r, acc, h => by
    have ih := textA_size r (putP acc (arrLine a)) fun b hb => h b (List.mem_cons_of_mem _ hb)
    have ha := h a (by simp)
    rw [put_size] at ih
    rw [List.length_cons, Nat.succ_mul]
    show (textA (putP acc (arrLine a)) r).size ≤ _
    omega
theorem textC_size {k : Nat} : ∀ (l : List Ins) (acc : ByteArray), (∀ a, a ∈ l → (insLine a).size ≤ k) → (textC acc l).size ≤ acc.size + l.length * (k + 1)
  | [], acc, h => by show acc.size ≤ _; omega
  | a :: r, acc, h => by
    have ih := textC_size r (putP acc (insLine a)) fun b hb => h b (List.mem_cons_of_mem _ hb)
    have ha := h a (by simp)
    rw [put_size] at ih
    rw [List.length_cons, Nat.succ_mul]
    show (textC (putP acc (insLine a)) r).size ≤ _
    omega
theorem textB_size {k : Nat} : ∀ (l : List Blk) (acc : ByteArray), (∀ b, b ∈ l → ∀ acc : ByteArray, (textC (putP acc (blkLine b)) b.code).size ≤ acc.size + k) → (textB acc l).size ≤ acc.size + l.length * k
  | [], acc, h => by show acc.size ≤ _; omega
  | a :: r, acc, h => by
    have ih := textB_size r (textC (putP acc (blkLine a)) a.code) fun b hb => h b (List.mem_cons_of_mem _ hb)
    have ha := h a (by simp) acc
    rw [List.length_cons, Nat.succ_mul]
    show (textB (textC (putP acc (blkLine a)) a.code) r).size ≤ _
    omega
theorem textF_size {k : Nat} : ∀ (l : List Fun) (acc : ByteArray), (∀ f, f ∈ l → ∀ acc : ByteArray, (putP (textB (putP acc (fnLine f)) f.blocks) ⟨#[125]⟩).size ≤ acc.size + k) → (textF acc l).size ≤ acc.size + l.length * k
  | [], acc, h => by show acc.size ≤ _; omega
  | a :: r, acc, h => by
    have ih := textF_size r (putP (textB (putP acc (fnLine a)) a.blocks) ⟨#[125]⟩) fun b hb => h b (List.mem_cons_of_mem _ hb)
    have ha := h a (by simp) acc
    rw [List.length_cons, Nat.succ_mul]
    show (textF (putP (textB (putP acc (fnLine a)) a.blocks) ⟨#[125]⟩) r).size ≤ _
    omega
/-- The numbers that instructions hold are numbers. -/
structure NumB (b : Blk) : Prop where
  code : ∀ x, x ∈ b.code → inI64 x.num
theorem arrLine_size {a : Arr} (h : arrOK a = true) : (arrLine a).size ≤ 300 := by
  unfold arrOK at h
  simp only [Bool.not_eq_true', Bool.or_eq_false_iff, decide_eq_false_iff_not, Bool.not_eq_false'] at h
  obtain ⟨⟨⟨h1, h2⟩, h3⟩, h4⟩ := h
  have s1 := okN_size h1
  have s2 := okN_size h2
  have s3 := show_size (n := a.size) (by unfold inI64; omega)
  unfold arrLine
  rw [join4, app_size, app_size, app_size, app_size, app_size, app_size]
  show 5 + (1 + (_ + (1 + (_ + (1 + _))))) ≤ _
  omega
theorem insLine_size {x : Ins} (h : rightI x = true) (hn : inI64 x.num) : (insLine x).size ≤ 14002 := by
  have := line_size (right_small h) hn
  unfold insLine
  rw [app_size]
  show 2 + _ ≤ _
  omega
theorem blkLine_size {b : Blk} (h : okN b.name = true) : (blkLine b).size ≤ 97 := by
  have := okN_size h
  unfold blkLine
  rw [app_size]
  show _ + 1 ≤ _
  omega
theorem fnLine_size {f : Fun} (h : okN f.name = true) (hp : allN f.params = true) (h6 : f.params.length ≤ 6) : (fnLine f).size ≤ 1000 := by
  have s1 := okN_size h
  have s2 := joinB_size commaS 96 f.params (allN_size hp)
  have s3 : (joinB f.params commaS).size ≤ 6 * 98 := Nat.le_trans s2 (Nat.mul_le_mul_right _ h6)
  unfold fnLine
  rw [app_size, app_size, app_size, app_size]
  show 3 + _ + 1 + _ + 3 ≤ _
  omega
structure BlkR (b : Blk) : Prop where
  name : okN b.name = true
  code : ∀ x, x ∈ b.code → rightI x = true
  few : b.code.length ≤ 4096
structure FunR (f : Fun) : Prop where
  name : okN f.name = true
  params : allN f.params = true
  plen : f.params.length ≤ 6
  blen : f.blocks.length ≤ 64
  blocks : ∀ b, b ∈ f.blocks → BlkR b
structure PrgR (p : Prg) : Prop where
  alen : p.arrays.length ≤ 16
  flen : p.funcs.length ≤ 64
  arrays : ∀ a, a ∈ p.arrays → arrOK a = true
  funcs : ∀ f, f ∈ p.funcs → FunR f
theorem right_prg {p : Prg} (h : rightP p = true) : PrgR p := by
  unfold rightP at h
  simp only [Bool.and_eq_true, Bool.not_eq_true', Bool.or_eq_false_iff, decide_eq_false_iff_not, decide_eq_true_eq, List.all_eq_true] at h
  obtain ⟨⟨⟨⟨h1, h2⟩, h3⟩, h4⟩, h5⟩ := h
  refine ⟨by omega, by omega, h3, fun f hf => ?_⟩
  have hk := h4 f hf
  unfold funOK at hk
  simp only [Bool.and_eq_true, Bool.not_eq_true', Bool.or_eq_false_iff, decide_eq_false_iff_not, Bool.not_eq_false', List.all_eq_true] at hk
  obtain ⟨⟨⟨⟨⟨k1, k2⟩, k3⟩, k4⟩, k5⟩, k6⟩ := hk
  refine ⟨k1, k2, by omega, by omega, fun b hb => ?_⟩
  have hq := k6 b hb
  unfold blkOK at hq
  simp only [Bool.and_eq_true, List.all_eq_true] at hq
  refine ⟨hq.1, hq.2, ?_⟩
  have s1 : b.code.length ≤ fN f := sum_mem (List.mem_map.2 ⟨b, hb, rfl⟩)
  have s2 : fN f ≤ progN8 p.funcs := sum_mem (l := p.funcs.map fN) (List.mem_map.2 ⟨f, hf, rfl⟩)
  omega
theorem blk_size {b : Blk} (h : BlkR b) (hn : ∀ x, x ∈ b.code → inI64 x.num) (k : Nat) (acc : ByteArray) : (textC (putP acc (blkLine b)) (b.code.take k)).size ≤ acc.size + 58000000 := by
  have h1 := textC_size (k := 14002) (b.code.take k) (putP acc (blkLine b)) fun x hx => insLine_size (h.code x (List.mem_of_mem_take hx)) (hn x (List.mem_of_mem_take hx))
  have h2 : (b.code.take k).length ≤ 4096 := by rw [List.length_take]; have := h.few; omega
  have h3 : (b.code.take k).length * (14002 + 1) ≤ 4096 * 14003 := Nat.mul_le_mul_right _ h2
  have h4 := blkLine_size h.name
  rw [put_size] at h1
  omega
theorem blks_size {f : Fun} (h : FunR f) (hn : ∀ b, b ∈ f.blocks → ∀ x, x ∈ b.code → inI64 x.num) (k : Nat) (acc : ByteArray) : (textB acc (f.blocks.take k)).size ≤ acc.size + 3712000000 := by
  have h1 := textB_size (k := 58000000) (f.blocks.take k) acc fun b hb acc => by
    have := blk_size (h.blocks b (List.mem_of_mem_take hb)) (hn b (List.mem_of_mem_take hb)) b.code.length acc
    rwa [List.take_length] at this
  have h2 : (f.blocks.take k).length ≤ 64 := by rw [List.length_take]; have := h.blen; omega
  have h3 : (f.blocks.take k).length * 58000000 ≤ 64 * 58000000 := Nat.mul_le_mul_right _ h2
  omega
theorem fun_size {f : Fun} (h : FunR f) (hn : ∀ b, b ∈ f.blocks → ∀ x, x ∈ b.code → inI64 x.num) (k : Nat) (acc : ByteArray) : (textB (putP acc (fnLine f)) (f.blocks.take k)).size ≤ acc.size + 3712002000 := by
  have h1 := blks_size h hn k (putP acc (fnLine f))
  have h2 := fnLine_size h.name h.params h.plen
  rw [put_size] at h1
  omega
theorem funs_size {p : Prg} (h : PrgR p) (hn : ∀ f, f ∈ p.funcs → ∀ b, b ∈ f.blocks → ∀ x, x ∈ b.code → inI64 x.num) (k : Nat) (acc : ByteArray) : (textF acc (p.funcs.take k)).size ≤ acc.size + 237568256000 := by
  have h1 := textF_size (k := 3712004000) (p.funcs.take k) acc fun f hf acc => by
    have := fun_size (h.funcs f (List.mem_of_mem_take hf)) (hn f (List.mem_of_mem_take hf)) f.blocks.length acc
    rw [List.take_length] at this
    rw [put_size]
    show _ + (1 + 1) ≤ _
    omega
  have h2 : (p.funcs.take k).length ≤ 64 := by rw [List.length_take]; have := h.flen; omega
  have h3 : (p.funcs.take k).length * 3712004000 ≤ 64 * 3712004000 := Nat.mul_le_mul_right _ h2
  omega
theorem arrs_size {p : Prg} (h : PrgR p) (k : Nat) : (textA .empty (p.arrays.take k)).size ≤ 5000 := by
  have h1 := textA_size (k := 300) (p.arrays.take k) .empty fun a ha => arrLine_size (h.arrays a (List.mem_of_mem_take ha))
  have h2 : (p.arrays.take k).length ≤ 16 := by rw [List.length_take]; have := h.alen; omega
  have h3 : (p.arrays.take k).length * (300 + 1) ≤ 16 * 301 := Nat.mul_le_mul_right _ h2
  have h4 : ByteArray.empty.size = 0 := rfl
  omega
theorem szfn : (⟨#[102, 110, 32]⟩ : ByteArray).size = 3 := rfl
theorem szbr : (⟨#[41, 32, 123]⟩ : ByteArray).size = 3 := rfl
theorem sz58b : (⟨#[58]⟩ : ByteArray).size = 1 := rfl
theorem sz3232 : (⟨#[32, 32]⟩ : ByteArray).size = 2 := rfl
/-! ### the walk -/
abbrev bldT : TypeId := 49
abbrev u8T : TypeId := 5
theorem write_spec (l s : ByteArray) (h : l.size + s.size ≤ okL) : Proc PG 15 1 [.ptr 0 0, vs s] [.bld bldT (.own 1), bytesC u8T l] (.tup [vi s.size, .d .ni]) [.bld bldT (.own 1), bytesC u8T (l ++ s)] :=
  Proc.ofWrite (P := PG) (r := Tryz.lays156_ren) { Tryz.lays156 with } Tryz.Builder_Extra_156 (callable_of Tryz.func15 (by kernel_rfl) (by kernel_rfl)) l s h
theorem string_spec (l : ByteArray) : Proc PG 21 1 [.ptr 0 0] [.bld bldT (.own 1), bytesC u8T l] (vs l) [.box [.dead, .dead], .vec u8T 1 0 fun _ => []] :=
  Proc.ofString (P := PG) Tryz.lays169 Tryz.Builder_Extra_169 (callable_of Tryz.func21 (by kernel_rfl) (by kernel_rfl)) l
theorem len_spec (l : ByteArray) : Proc PG 20 1 [.ptr 0 0] [.bld bldT (.own 1), bytesC u8T l] (vi l.size) [.bld bldT (.own 1), bytesC u8T l] :=
  Proc.ofLen (P := PG) Tryz.lays170 ⟨⟨Tryz.Builder_Extra_156.sizeBuilder, Tryz.Builder_Extra_156.liesBuilder⟩, Tryz.Builder_Extra_156.t5, Tryz.Builder_Extra_156.a5, Tryz.Builder_Extra_156.z5, Tryz.Builder_Extra_156.v5, Tryz.Builder_Extra_156.infoByte, Tryz.Builder_Extra_156.cellsByte, Tryz.Builder_Extra_156.sizeByte, Tryz.Builder_Extra_156.neB5⟩ (callable_of Tryz.func20 (by kernel_rfl) (by kernel_rfl)) l
theorem put_spec (l s : ByteArray) (h : l.size + (s.size + 1) ≤ okL) : Proc PG 14 1 [vs s, .ptr 0 0] [.bld bldT (.own 1), bytesC u8T l] (.tup []) [.bld bldT (.own 1), bytesC u8T (putP l s)] := by
  refine Proc.mk (cfgF 6 1) tysOK [0, 1] Tryz.func14 rfl (by kernel_rfl) rfl rfl rfl ?_
  intro C x
  unfold okL at h
  refine x.call [0, 1] rfl (by simp only [AllP]; show ((s.size + 1 : Nat) : Int) ≤ _; omega) rfl (write_spec l (s ++ (⟨#[10]⟩ : ByteArray)) (by rw [app_size]; exact h)) rfl ⟨⟨rfl, rfl⟩, rfl, trivial⟩ ⟨⟨rfl, rfl⟩, ⟨rfl, rfl, rfl, fun _ _ => rfl⟩, trivial⟩ ?_
  refine x.exit rfl trivial ?_
  exact ⟨.inl rfl, trivial, ⟨⟨rfl, rfl⟩, ⟨rfl, rfl, rfl, fun _ _ => rfl⟩, trivial⟩, rfl⟩
/-- How far. -/
structure IW (n : Nat) where
  i : Nat
  hi : i ≤ n
theorem ba_eqC {T : TypeId} {a b : ByteArray} (h : a = b) : ChEq (bytesC T a) (bytesC T b) := by subst h; exact ⟨rfl, rfl, rfl, fun _ _ => rfl⟩
theorem textC_succ {l : List Ins} {i : Nat} (h : i < l.length) (acc : ByteArray) : putP (textC acc (l.take i)) (insLine (l.getD i (ins0 0))) = textC acc (l.take (i + 1)) := (fold_take (fun acc x => putP acc (insLine x)) acc h (ins0 0)).symm
theorem textB_succ {l : List Blk} {i : Nat} (h : i < l.length) (acc : ByteArray) : textC (putP (textB acc (l.take i)) (blkLine (l.getD i blk0))) (l.getD i blk0).code = textB acc (l.take (i + 1)) := (fold_take (fun acc b => textC (putP acc (blkLine b)) b.code) acc h blk0).symm
theorem textA_succ {l : List Arr} {i : Nat} (h : i < l.length) (acc : ByteArray) : putP (textA acc (l.take i)) (arrLine (l.getD i arr0)) = textA acc (l.take (i + 1)) := (fold_take (fun acc a => putP acc (arrLine a)) acc h arr0).symm
theorem textF_succ {l : List Fun} {i : Nat} (h : i < l.length) (acc : ByteArray) : putP (textB (putP (textF acc (l.take i)) (fnLine (l.getD i fun0))) (l.getD i fun0).blocks) ⟨#[125]⟩ = textF acc (l.take (i + 1)) := (fold_take (fun acc f => putP (textB (putP acc (fnLine f)) f.blocks) ⟨#[125]⟩) acc h fun0).symm
set_option maxHeartbeats 8000000 in
theorem print_spec (p : Prg) (hp : FitP p) : Pure PG 5 [prgV p] (.tup [vs (printP p).1, vi (printP p).2]) [] := by
  refine Proc.mk (cfg 87) tysOK [] Tryz.func5 rfl (by kernel_rfl) rfl rfl rfl ?_
  intro C x
  refine x.pure rfl trivial rfl (rightp_spec p hp) ⟨⟨veq0_d rfl, veq0_d rfl, trivial⟩, trivial⟩ ?_
  refine x.cond rfl trivial (fun h => ?_) (fun h => ?_)
  · have h : (!rightP p) = true := h
    refine x.exit rfl trivial ?_
    unfold printP
    rw [if_neg (by simpa using h)]
    exact ⟨.inr rfl, ⟨rfl, rfl, trivial⟩, trivial, rfl⟩
  have h : (!rightP p) = false := h
  have hr : rightP p = true := by simpa using h
  have hR := right_prg hr
  have hnum : ∀ f, f ∈ p.funcs → ∀ b, b ∈ f.blocks → ∀ x, x ∈ b.code → inI64 x.num := fun f hf b hb x hx => (((hp.funcs f hf).blocks b hb).code x hx).num
  have ha16 := hR.alen
  have hf64 := hR.flen
  unfold printP
  rw [if_pos hr]
  clear h
  refine x.toLoop rfl trivial ?_
  refine Go.ownBld 1 u8T bldT 1 (fun i => [.int .u8 (sb .empty i)]) rfl ?_
  refine x.loop (α := IW p.arrays.length) (fun y => ⟨[(1, .ptr 0 0), (4, .ptr 1 0), (5, .fn 14 [.ptr 1 0]), (19, .d (dArrs p.arrays)), (20, vi p.arrays.length), (21, vi (y.i : Int))], [(0, .box [.d (dArrs p.arrays), .d (dFuns p.funcs)]), (1, .bld bldT (.own 2)), (2, bytesC u8T (textA .empty (p.arrays.take y.i)))], 3⟩) (fun y => p.arrays.length - y.i) ⟨0, Nat.zero_le _⟩ rfl trivial ⟨⟨⟨rfl, rfl⟩, ⟨rfl, rfl⟩, rfl, veq_d rfl, rfl, rfl, trivial⟩, ⟨⟨veq0_d rfl, veq0_d rfl, trivial⟩, ⟨rfl, rfl⟩, ⟨rfl, rfl, rfl, fun _ _ => rfl⟩, trivial⟩, rfl⟩ (fun y => ?_)
  obtain ⟨i, hi⟩ := y
  change Go C _ ⟨[(1, .ptr 0 0), (4, .ptr 1 0), (5, .fn 14 [.ptr 1 0]), (19, .d (dArrs p.arrays)), (20, vi p.arrays.length), (21, vi (i : Int))], [(0, .box [.d (dArrs p.arrays), .d (dFuns p.funcs)]), (1, .bld bldT (.own 2)), (2, bytesC u8T (textA .empty (p.arrays.take i)))], 3⟩ _
  refine x.cond rfl trivial (fun h2 => ?_) (fun h2 => ?_)
  · have h2 : (i : Int) < (p.arrays.length : Int) := of_decide_eq_true h2
    have h2 : i < p.arrays.length := by omega
    have ei : ((i : Int).toNat) = i := Int.toNat_natCast i
    have hin := hp.arrays _ (getD_mem (d := arr0) h2)
    have hok := hR.arrays _ (getD_mem (d := arr0) h2)
    have hsz := arrs_size hR i
    have hsuc := textA_succ h2 .empty
    obtain ⟨a, hae⟩ : ∃ a, p.arrays.getD i arr0 = a := ⟨_, rfl⟩
    have hae2 : p.arrays.getD ((i : Int).toNat) arr0 = a := by rw [ei]; exact hae
    rw [hae] at hin hok hsuc
    have hls := arrLine_size hok
    refine x.draw [] [0] [1, 2, 3, 4, 6, 7] [5] [8, 9, 10] rfl (by simp only [AllP]; omega) mixedP (by kernel_rfl) Ret.noPanic.quiet rfl trivial (fun C1 x1 => ?_)
    rw [hae2]
    refine x1.pure rfl trivial rfl (show_spec a.size hin.size) ⟨rfl, trivial⟩ ?_
    refine x1.back rfl trivial ?_
    refine x.op rfl trivial ?_
    refine Sx.Go.freeze 4 ?_
    refine x.pure rfl trivial rfl (words_spec [⟨#[97, 114, 114, 97, 121]⟩, a.name, showV a.size, a.level] (Nat.le_of_ble_eq_true rfl) (show (arrLine a).size ≤ _ by unfold okL; omega)) ⟨⟨rfl, fun _ => rfl, ev4 rfl rfl rfl rfl⟩, trivial⟩ ?_
    refine x.call [1, 2] rfl trivial rfl (put_spec (textA .empty (p.arrays.take i)) (arrLine a) (by unfold okL; omega)) rfl ⟨rfl, ⟨rfl, rfl⟩, trivial⟩ ⟨⟨rfl, rfl⟩, ⟨rfl, rfl, rfl, fun _ _ => rfl⟩, trivial⟩ ?_
    refine x.back rfl (by simp only [AllP, inI64]; omega) ⟨⟨i + 1, by omega⟩, by show p.arrays.length - (i + 1) < p.arrays.length - i; omega, ⟨⟨rfl, rfl⟩, ⟨rfl, rfl⟩, rfl, veq_d rfl, rfl, ?_, trivial⟩, ⟨⟨veq0_d rfl, veq0_d rfl, trivial⟩, ⟨rfl, rfl⟩, ?_, trivial⟩, rfl⟩
    · show VEq0 (vi ((i : Int) + 1)) (vi ((i + 1 : Nat) : Int)); rw [Int.natCast_add]; rfl
    · exact ba_eqC hsuc
  have h2 : ¬ (i : Int) < (p.arrays.length : Int) := of_decide_eq_false h2
  obtain rfl : i = p.arrays.length := by omega
  rw [List.take_length]
  have hA : (textA .empty p.arrays).size ≤ 5000 := by have := arrs_size hR p.arrays.length; rwa [List.take_length] at this
  refine x.loop (α := IW p.funcs.length) (fun y => ⟨[(1, .ptr 0 0), (4, .ptr 1 0), (5, .fn 14 [.ptr 1 0]), (38, .d (dFuns p.funcs)), (39, vi p.funcs.length), (40, vi (y.i : Int))], [(0, .box [.d (dArrs p.arrays), .d (dFuns p.funcs)]), (1, .bld bldT (.own 2)), (2, bytesC u8T (textF (textA .empty p.arrays) (p.funcs.take y.i)))], 3⟩) (fun y => p.funcs.length - y.i) ⟨0, Nat.zero_le _⟩ rfl trivial ⟨⟨⟨rfl, rfl⟩, ⟨rfl, rfl⟩, rfl, veq_d rfl, rfl, rfl, trivial⟩, ⟨⟨veq0_d rfl, veq0_d rfl, trivial⟩, ⟨rfl, rfl⟩, ⟨rfl, rfl, rfl, fun _ _ => rfl⟩, trivial⟩, rfl⟩ (fun y => ?_)
  obtain ⟨i, hi⟩ := y
  change Go C _ ⟨[(1, .ptr 0 0), (4, .ptr 1 0), (5, .fn 14 [.ptr 1 0]), (38, .d (dFuns p.funcs)), (39, vi p.funcs.length), (40, vi (i : Int))], [(0, .box [.d (dArrs p.arrays), .d (dFuns p.funcs)]), (1, .bld bldT (.own 2)), (2, bytesC u8T (textF (textA .empty p.arrays) (p.funcs.take i)))], 3⟩ _
  have hsz := funs_size hR hnum i (textA .empty p.arrays)
  refine x.cond rfl trivial (fun h2 => ?_) (fun h2 => ?_)
  rotate_left
  · have h2 : ¬ (i : Int) < (p.funcs.length : Int) := of_decide_eq_false h2
    obtain rfl : i = p.funcs.length := by omega
    rw [List.take_length]
    refine x.call [1, 2] rfl trivial rfl (len_spec (textF (textA .empty p.arrays) p.funcs)) rfl ⟨⟨rfl, rfl⟩, trivial⟩ ⟨⟨rfl, rfl⟩, ⟨rfl, rfl, rfl, fun _ _ => rfl⟩, trivial⟩ ?_
    refine x.cond rfl trivial (fun h3 => ?_) (fun h3 => ?_)
    · have h3 : (65536 : Int) < ((textP p).size : Int) := of_decide_eq_true h3
      rw [if_pos (by omega)]
      refine x.exit rfl trivial ?_
      exact ⟨.inr rfl, ⟨rfl, rfl, trivial⟩, trivial, rfl⟩
    · have h3 : ¬ (65536 : Int) < ((textP p).size : Int) := of_decide_eq_false h3
      rw [if_neg (by omega)]
      refine x.call [1, 2] rfl trivial rfl (string_spec (textF (textA .empty p.arrays) p.funcs)) rfl ⟨⟨rfl, rfl⟩, trivial⟩ ⟨⟨rfl, rfl⟩, ⟨rfl, rfl, rfl, fun _ _ => rfl⟩, trivial⟩ ?_
      refine x.exit rfl trivial ?_
      exact ⟨.inr rfl, ⟨rfl, rfl, trivial⟩, trivial, rfl⟩
  have h2 : (i : Int) < (p.funcs.length : Int) := of_decide_eq_true h2
  have h2 : i < p.funcs.length := by omega
  have ei : ((i : Int).toNat) = i := Int.toNat_natCast i
  have hin := hp.funcs _ (getD_mem (d := fun0) h2)
  have hok := hR.funcs _ (getD_mem (d := fun0) h2)
  have hnf := hnum _ (getD_mem (d := fun0) h2)
  have hsuc := textF_succ h2 (textA .empty p.arrays)
  obtain ⟨f, hfe⟩ : ∃ f, p.funcs.getD i fun0 = f := ⟨_, rfl⟩
  have hfe2 : p.funcs.getD ((i : Int).toNat) fun0 = f := by rw [ei]; exact hfe
  rw [hfe] at hin hok hnf hsuc
  have hls := fnLine_size hok.name hok.params hok.plen
  have hnz := okN_size hok.name
  have hjz := joinB_size commaS 96 f.params (allN_size hok.params)
  have hjz2 : (joinB f.params commaS).size ≤ 6 * 98 := Nat.le_trans hjz (Nat.mul_le_mul_right _ hok.plen)
  have hpl := hok.plen
  have hbl := hok.blen
  obtain ⟨acc, hacc⟩ : ∃ acc, textF (textA .empty p.arrays) (p.funcs.take i) = acc := ⟨_, rfl⟩
  rw [hacc] at hsz hsuc ⊢
  refine x.draw [] [0] [1, 2, 3, 4, 5, 6] [7] [8, 9, 10] rfl (by simp only [AllP]; omega) mixedP (by kernel_rfl) Ret.noPanic.quiet rfl (by rw [hfe2]; simp only [AllP, app_size, szfn, sz40]; omega) (fun C1 x1 => ?_)
  rw [hfe2]
  refine x1.pure rfl trivial rfl (join_spec f.params commaS (by unfold okL; omega) (by unfold okL; omega)) ⟨veq_d rfl, rfl, trivial⟩ ?_
  refine x1.back rfl trivial ?_
  refine x.call [1, 2] rfl (by simp only [AllP, app_size, szfn, sz40, szbr]; omega) rfl (put_spec acc (fnLine f) (by unfold okL; omega)) rfl ⟨rfl, ⟨rfl, rfl⟩, trivial⟩ ⟨⟨rfl, rfl⟩, ⟨rfl, rfl, rfl, fun _ _ => rfl⟩, trivial⟩ ?_
  refine x.loop (α := IW f.blocks.length) (fun y => ⟨[(1, .ptr 0 0), (4, .ptr 1 0), (5, .fn 14 [.ptr 1 0]), (38, .d (dFuns p.funcs)), (39, vi p.funcs.length), (40, vi (i : Int)), (9, .ptr 3 0), (56, .d (dBlks f.blocks)), (57, vi f.blocks.length), (58, vi (y.i : Int))], [(0, .box [.d (dArrs p.arrays), .d (dFuns p.funcs)]), (1, .bld bldT (.own 2)), (2, bytesC u8T (textB (putP acc (fnLine f)) (f.blocks.take y.i))), (3, .box [vs f.name, .d (dStrs f.params), .d (dBlks f.blocks), vi f.at_])], 4⟩) (fun y => f.blocks.length - y.i) ⟨0, Nat.zero_le _⟩ rfl trivial ⟨⟨⟨rfl, rfl⟩, ⟨rfl, rfl⟩, rfl, veq_d rfl, rfl, rfl, ⟨rfl, rfl⟩, veq_d rfl, rfl, rfl, trivial⟩, ⟨⟨veq0_d rfl, veq0_d rfl, trivial⟩, ⟨rfl, rfl⟩, ⟨rfl, rfl, rfl, fun _ _ => rfl⟩, ⟨rfl, veq0_d rfl, veq0_d rfl, rfl, trivial⟩, trivial⟩, rfl⟩ (fun y => ?_)
  obtain ⟨k, hk⟩ := y
  change Go C _ ⟨[(1, .ptr 0 0), (4, .ptr 1 0), (5, .fn 14 [.ptr 1 0]), (38, .d (dFuns p.funcs)), (39, vi p.funcs.length), (40, vi (i : Int)), (9, .ptr 3 0), (56, .d (dBlks f.blocks)), (57, vi f.blocks.length), (58, vi (k : Int))], [(0, .box [.d (dArrs p.arrays), .d (dFuns p.funcs)]), (1, .bld bldT (.own 2)), (2, bytesC u8T (textB (putP acc (fnLine f)) (f.blocks.take k))), (3, .box [vs f.name, .d (dStrs f.params), .d (dBlks f.blocks), vi f.at_])], 4⟩ _
  have hsz2 := fun_size hok hnf k acc
  refine x.cond rfl trivial (fun h4 => ?_) (fun h4 => ?_)
  rotate_left
  · have h4 : ¬ (k : Int) < (f.blocks.length : Int) := of_decide_eq_false h4
    obtain rfl : k = f.blocks.length := by omega
    rw [List.take_length] at hsz2 ⊢
    refine x.call [1, 2] rfl trivial rfl (put_spec (textB (putP acc (fnLine f)) f.blocks) ⟨#[125]⟩ (by unfold okL; show _ + (1 + 1) ≤ _; omega)) rfl ⟨rfl, ⟨rfl, rfl⟩, trivial⟩ ⟨⟨rfl, rfl⟩, ⟨rfl, rfl, rfl, fun _ _ => rfl⟩, trivial⟩ ?_
    refine x.back rfl (by simp only [AllP, inI64]; omega) ⟨⟨i + 1, by omega⟩, by show p.funcs.length - (i + 1) < p.funcs.length - i; omega, ⟨⟨rfl, rfl⟩, ⟨rfl, rfl⟩, rfl, veq_d rfl, rfl, ?_, trivial⟩, ⟨⟨veq0_d rfl, veq0_d rfl, trivial⟩, ⟨rfl, rfl⟩, ?_, trivial⟩, rfl⟩
    · show VEq0 (vi ((i : Int) + 1)) (vi ((i + 1 : Nat) : Int)); rw [Int.natCast_add]; rfl
    · exact ba_eqC hsuc
  have h4 : (k : Int) < (f.blocks.length : Int) := of_decide_eq_true h4
  have h4 : k < f.blocks.length := by omega
  have ek : ((k : Int).toNat) = k := Int.toNat_natCast k
  have hin2 := hin.blocks _ (getD_mem (d := blk0) h4)
  have hok2 := hok.blocks _ (getD_mem (d := blk0) h4)
  have hnb := hnf _ (getD_mem (d := blk0) h4)
  have hsuc2 := textB_succ h4 (putP acc (fnLine f))
  obtain ⟨b, hbe⟩ : ∃ b, f.blocks.getD k blk0 = b := ⟨_, rfl⟩
  have hbe2 : f.blocks.getD ((k : Int).toNat) blk0 = b := by rw [ek]; exact hbe
  rw [hbe] at hin2 hok2 hnb hsuc2
  have hls2 := blkLine_size hok2.name
  have hnz2 := okN_size hok2.name
  have hfew := hok2.few
  obtain ⟨acc2, hacc2⟩ : ∃ acc2, textB (putP acc (fnLine f)) (f.blocks.take k) = acc2 := ⟨_, rfl⟩
  rw [hacc2] at hsz2 hsuc2 ⊢
  refine x.call [1, 2] rfl (by rw [hbe2]; simp only [AllP, sz58b]; omega) rfl (show Proc PG _ 1 [vs ((f.blocks.getD ((k : Int).toNat) blk0).name ++ (⟨#[58]⟩ : ByteArray)), .ptr 0 0] [.bld bldT (.own 1), bytesC u8T acc2] (.tup []) [.bld bldT (.own 1), bytesC u8T (putP acc2 (blkLine b))] from by rw [hbe2]; exact put_spec acc2 (blkLine b) (by unfold okL; omega)) rfl ⟨rfl, ⟨rfl, rfl⟩, trivial⟩ ⟨⟨rfl, rfl⟩, ⟨rfl, rfl, rfl, fun _ _ => rfl⟩, trivial⟩ ?_
  rw [hbe2]
  refine x.loop (α := IW b.code.length) (fun y => ⟨[(1, .ptr 0 0), (4, .ptr 1 0), (5, .fn 14 [.ptr 1 0]), (38, .d (dFuns p.funcs)), (39, vi p.funcs.length), (40, vi (i : Int)), (9, .ptr 3 0), (56, .d (dBlks f.blocks)), (57, vi f.blocks.length), (58, vi (k : Int)), (11, .ptr 4 0), (68, .d (dCode b.code)), (69, vi b.code.length), (70, vi (y.i : Int))], [(0, .box [.d (dArrs p.arrays), .d (dFuns p.funcs)]), (1, .bld bldT (.own 2)), (2, bytesC u8T (textC (putP acc2 (blkLine b)) (b.code.take y.i))), (3, .box [vs f.name, .d (dStrs f.params), .d (dBlks f.blocks), vi f.at_]), (4, .box [vs b.name, .d (dCode b.code), vi b.at_])], 5⟩) (fun y => b.code.length - y.i) ⟨0, Nat.zero_le _⟩ rfl trivial ⟨⟨⟨rfl, rfl⟩, ⟨rfl, rfl⟩, rfl, veq_d rfl, rfl, rfl, ⟨rfl, rfl⟩, veq_d rfl, rfl, rfl, ⟨rfl, rfl⟩, veq_d rfl, rfl, rfl, trivial⟩, ⟨⟨veq0_d rfl, veq0_d rfl, trivial⟩, ⟨rfl, rfl⟩, ⟨rfl, rfl, rfl, fun _ _ => rfl⟩, ⟨rfl, veq0_d rfl, veq0_d rfl, rfl, trivial⟩, ⟨rfl, veq0_d rfl, rfl, trivial⟩, trivial⟩, rfl⟩ (fun y => ?_)
  obtain ⟨j, hj⟩ := y
  change Go C _ ⟨[(1, .ptr 0 0), (4, .ptr 1 0), (5, .fn 14 [.ptr 1 0]), (38, .d (dFuns p.funcs)), (39, vi p.funcs.length), (40, vi (i : Int)), (9, .ptr 3 0), (56, .d (dBlks f.blocks)), (57, vi f.blocks.length), (58, vi (k : Int)), (11, .ptr 4 0), (68, .d (dCode b.code)), (69, vi b.code.length), (70, vi (j : Int))], [(0, .box [.d (dArrs p.arrays), .d (dFuns p.funcs)]), (1, .bld bldT (.own 2)), (2, bytesC u8T (textC (putP acc2 (blkLine b)) (b.code.take j))), (3, .box [vs f.name, .d (dStrs f.params), .d (dBlks f.blocks), vi f.at_]), (4, .box [vs b.name, .d (dCode b.code), vi b.at_])], 5⟩ _
  have hsz3 := blk_size hok2 hnb j acc2
  refine x.cond rfl trivial (fun h6 => ?_) (fun h6 => ?_)
  rotate_left
  · have h6 : ¬ (j : Int) < (b.code.length : Int) := of_decide_eq_false h6
    obtain rfl : j = b.code.length := by omega
    rw [List.take_length]
    refine x.back rfl (by simp only [AllP, inI64]; omega) ⟨⟨k + 1, by omega⟩, by show f.blocks.length - (k + 1) < f.blocks.length - k; omega, ⟨⟨rfl, rfl⟩, ⟨rfl, rfl⟩, rfl, veq_d rfl, rfl, rfl, ⟨rfl, rfl⟩, veq_d rfl, rfl, ?_, trivial⟩, ⟨⟨veq0_d rfl, veq0_d rfl, trivial⟩, ⟨rfl, rfl⟩, ?_, ⟨rfl, veq0_d rfl, veq0_d rfl, rfl, trivial⟩, trivial⟩, rfl⟩
    · show VEq0 (vi ((k : Int) + 1)) (vi ((k + 1 : Nat) : Int)); rw [Int.natCast_add]; rfl
    · exact ba_eqC hsuc2
  have h6 : (j : Int) < (b.code.length : Int) := of_decide_eq_true h6
  have h6 : j < b.code.length := by omega
  have ej : ((j : Int).toNat) = j := Int.toNat_natCast j
  have hin3 := hin2.code _ (getD_mem (d := ins0 0) h6)
  have hok3 := hok2.code _ (getD_mem (d := ins0 0) h6)
  have hni := hnb _ (getD_mem (d := ins0 0) h6)
  have hsuc3 := textC_succ h6 (putP acc2 (blkLine b))
  obtain ⟨q, hqe⟩ : ∃ q, b.code.getD j (ins0 0) = q := ⟨_, rfl⟩
  have hqe2 : b.code.getD ((j : Int).toNat) (ins0 0) = q := by rw [ej]; exact hqe
  rw [hqe] at hin3 hok3 hni hsuc3
  have hls3 := insLine_size hok3 hni
  have hlz := line_size (right_small hok3) hni
  refine x.pure rfl (by simp only [AllP]; omega) rfl (show Pure PG _ [insV (b.code.getD ((j : Int).toNat) (ins0 0))] _ [] from by rw [hqe2]; exact line_spec q hin3 hok3) ⟨⟨rfl, rfl, rfl, rfl, rfl, veq0_d rfl, veq0_d rfl, rfl, rfl, trivial⟩, trivial⟩ ?_
  refine x.call [1, 2] rfl (by simp only [AllP, sz3232]; omega) rfl (put_spec (textC (putP acc2 (blkLine b)) (b.code.take j)) (insLine q) (by unfold okL; omega)) rfl ⟨rfl, ⟨rfl, rfl⟩, trivial⟩ ⟨⟨rfl, rfl⟩, ⟨rfl, rfl, rfl, fun _ _ => rfl⟩, trivial⟩ ?_
  refine x.back rfl (by simp only [AllP, inI64]; omega) ⟨⟨j + 1, by omega⟩, by show b.code.length - (j + 1) < b.code.length - j; omega, ⟨⟨rfl, rfl⟩, ⟨rfl, rfl⟩, rfl, veq_d rfl, rfl, rfl, ⟨rfl, rfl⟩, veq_d rfl, rfl, rfl, ⟨rfl, rfl⟩, veq_d rfl, rfl, ?_, trivial⟩, ⟨⟨veq0_d rfl, veq0_d rfl, trivial⟩, ⟨rfl, rfl⟩, ?_, ⟨rfl, veq0_d rfl, veq0_d rfl, rfl, trivial⟩, ⟨rfl, veq0_d rfl, rfl, trivial⟩, trivial⟩, rfl⟩
  · show VEq0 (vi ((j : Int) + 1)) (vi ((j + 1 : Nat) : Int)); rw [Int.natCast_add]; rfl
  · exact ba_eqC hsuc3
end Go.Proofs.YteeofakohenpoaaGreatDoor

/- Programs that are read are small; each is like itself; the chapter's examples. -/
namespace Go.Proofs.YteeofakohenpoaaGreatDoor
open Go.Sx
set_option linter.unusedVariables false
set_option linter.unusedSimpArgs false
set_option maxRecDepth 100000
section
variable {s : ByteArray} {l : List Tok}
/-- What holds of the value, if there is one. -/
def Okk {α : Type} (p : α → Prop) (r : Except (Int × Int) (Nat × α)) : Prop := ∀ n x, r = .ok (n, x) → p x
theorem okk_bnd {α β : Type} {p : α → Prop} {q : β → Prop} {r : Except (Int × Int) (Nat × α)} {k : Nat → α → Except (Int × Int) (Nat × β)} (h1 : Okk p r) (h2 : ∀ n a, p a → Okk q (k n a)) : Okk q (bnd r k) := fun n x e => by
  rcases r with e1 | ⟨n1, a⟩
  · cases e
  · exact h2 n1 a (h1 n1 a rfl) n x e
theorem okk_any {α : Type} {r : Except (Int × Int) (Nat × α)} : Okk (fun _ => True) r := fun _ _ _ => trivial
theorem okk_ok {α : Type} {p : α → Prop} {n : Nat} {x : α} (h : p x) : Okk p (.ok (n, x)) := fun n' y e => by
  simp only [Except.ok.injEq, Prod.mk.injEq] at e
  rw [← e.2]; exact h
theorem okk_err {α : Type} {p : α → Prop} {e : Int × Int} : Okk (α := α) p (.error e) := fun _ _ h => by cases h
def Sm (k : Nat) (x : Ins) : Prop := x.args.length ≤ k ∧ x.frm.length ≤ k
theorem sm_arg {k n : Nat} {x : Ins} (h : Sm k x) : Okk (Sm (k + 1)) (argV s l n x) := okk_bnd okk_any fun n a _ => okk_ok ⟨by rw [List.length_append]; simp only [List.length_cons, List.length_nil]; have := h.1; omega, Nat.le_succ_of_le h.2⟩
theorem sm_one {n : Nat} {k : Nat} {x : Ins} (h : Sm k x) : Okk (Sm (k + 1)) (oneV7 s l n x) := okk_bnd okk_any fun n a _ => okk_ok ⟨by simp, Nat.le_succ_of_le h.2⟩
theorem sm_ref {n : Nat} {k : Nat} {x : Ins} (h : Sm k x) : Okk (Sm k) (refV s l n x) := okk_bnd okk_any fun n a _ => okk_ok h
theorem names_len {n : Nat} : Okk (fun o => o.length ≤ 6) (namesV s l n) := by
  unfold namesV
  split
  · split
    · exact okk_ok (by simp)
    · intro n' o e
      rcases hF : namesF s l (l.length + 2) (n + 1) 0 [] with er | ⟨n1, o1⟩
      · rw [hF] at e; cases e
      · rw [hF] at e
        have h1 := (namesF_le hF).2.2 rfl (by omega)
        simp only [closeV] at e
        split at e
        · simp only [Except.ok.injEq, Prod.mk.injEq] at e
          rw [← e.2]; exact h1
        · cases e
  · exact okk_err
theorem sm_pairs : ∀ (f n k : Nat) (x : Ins) (j : Nat), Sm j x → Okk (Sm (j + f)) (pairsF s l f n k x)
  | 0, n, k, x, j, h => okk_err
  | f + 1, n, k, x, j, h => by
    rw [pairsF]
    split
    · exact okk_err
    · refine okk_bnd (p := Sm (j + 1)) ?_ fun n' y hy => ?_
      · exact okk_bnd okk_any fun _ _ _ => okk_bnd okk_any fun _ _ _ => okk_bnd okk_any fun _ _ _ => okk_ok ⟨by rw [List.length_append]; simp only [List.length_cons, List.length_nil]; have := h.1; omega, by rw [List.length_append]; simp only [List.length_cons, List.length_nil]; have := h.2; omega⟩
      · split
        · have := sm_pairs f (n' + 1) (k + 1) y (j + 1) hy
          rw [show j + 1 + f = j + (f + 1) by omega] at this
          exact this
        · exact okk_ok ⟨by have := hy.1; omega, by have := hy.2; omega⟩
theorem sm_close {b : UInt8} {p : Ins → Prop} {r : Except (Int × Int) (Nat × Ins)} (h : Okk p r) : Okk p (closeV s l b r) := by
  rw [closeV_bnd]
  exact okk_bnd h fun n o ho => okk_bnd okk_any fun _ _ _ => okk_ok ho
theorem Sm.up {k j : Nat} {x : Ins} (h : Sm k x) (hk : k ≤ j) : Sm j x := ⟨Nat.le_trans h.1 hk, Nat.le_trans h.2 hk⟩
theorem okk_up {α : Type} {p q : α → Prop} {r : Except (Int × Int) (Nat × α)} (h : Okk p r) (hq : ∀ x, p x → q x) : Okk q r := fun n x e => hq x (h n x e)
abbrev cap (l : List Tok) : Nat := l.length + 10
theorem sm_word {n : Nat} {x : Ins} {w : List UInt8} (h : Sm 0 x) : Okk (Sm (cap l)) (wordV s l n x w) := by
  have up : ∀ {j : Nat} {r : Except (Int × Int) (Nat × Ins)}, j ≤ cap l → Okk (Sm j) r → Okk (Sm (cap l)) r := fun hj hr => okk_up hr fun _ hx => hx.up hj
  have h0 : ∀ k : Int, Sm 0 ({ x with kind := k } : Ins) := fun k => h
  unfold wordV
  split
  · unfold constV; split
    · exact okk_ok ((show Sm 0 x from h).up (Nat.zero_le _))
    · exact okk_err
  split
  · exact up (j := 1) (by show _ ≤ _ + 10; omega) (okk_bnd (sm_ref (h0 4)) fun n y hy => sm_one hy)
  split
  · exact up (j := 1) (by show _ ≤ _ + 10; omega) (okk_bnd (sm_ref (h0 5)) fun n y hy => sm_one hy)
  split
  · exact up (j := 0) (Nat.zero_le _) (sm_ref (h0 8))
  split
  · exact up (j := 6) (by show _ ≤ _ + 10; omega) (okk_bnd (sm_ref (h0 7)) fun n y hy => okk_bnd names_len fun n o ho => okk_ok ⟨ho, Nat.le_trans hy.2 (by omega)⟩)
  split
  · exact up (j := 1) (by show _ ≤ _ + 10; omega) (okk_bnd (sm_one (h0 10)) fun n y hy => sm_ref hy)
  split
  · exact up (j := 0 + (l.length + 1)) (by show _ ≤ l.length + 10; omega) (okk_bnd okk_any fun n1 _ _ => sm_close (sm_pairs (s := s) (l := l) (l.length + 1) n1 0 _ 0 (h0 3)))
  · exact okk_err
theorem sm_value {n : Nat} {x : Ins} (h : Sm 0 x) : Okk (Sm (cap l)) (valueV s l n x) := by
  unfold valueV
  split
  · exact okk_up (okk_bnd (sm_arg (k := 0) h) fun n y hy => sm_arg hy) fun y hy => hy.up (by show _ ≤ _ + 10; omega)
  · exact sm_word h
theorem sm_act {w : List UInt8} {f : Nat → Ins → Except (Int × Int) (Nat × Ins)} (hf : actV s l w = some f) {n : Nat} {x : Ins} (h : Sm 0 x) : Okk (Sm (cap l)) (f n x) := by
  have up : ∀ {j : Nat} {r : Except (Int × Int) (Nat × Ins)}, j ≤ 10 → Okk (Sm j) r → Okk (Sm (cap l)) r := fun hj hr => okk_up hr fun _ hx => hx.up (by show _ ≤ l.length + 10; omega)
  unfold actV at hf
  split at hf
  · obtain rfl := Option.some.inj hf
    exact up (j := 2) (by omega) (okk_bnd okk_any fun n a _ => okk_bnd (sm_arg (k := 0) h) fun n y hy => okk_bnd (sm_arg hy) fun n y hy => okk_ok hy)
  split at hf
  · obtain rfl := Option.some.inj hf
    exact up (j := 1) (by omega) (okk_bnd okk_any fun n a _ => okk_bnd (sm_arg (k := 0) h) fun n y hy => okk_ok hy)
  split at hf
  · obtain rfl := Option.some.inj hf
    exact up (j := 0) (by omega) (okk_bnd okk_any fun n a _ => okk_ok h)
  split at hf
  · obtain rfl := Option.some.inj hf
    exact up (j := 1) (by omega) (okk_bnd (sm_arg (k := 0) (x := { x with kind := 12 }) h) fun n y hy => okk_bnd okk_any fun n a _ => okk_bnd okk_any fun n a _ => okk_ok hy)
  split at hf
  · obtain rfl := Option.some.inj hf
    exact up (j := 1) (by omega) (okk_bnd (sm_arg (k := 0) (x := { x with kind := 13 }) h) fun n y hy => okk_ok hy)
  · cases hf
theorem sm_instr {n c : Nat} : Okk (Sm (cap l)) (instrV s l n c) := by
  have h0 : ∀ a, Sm 0 (ins0 a) := fun a => ⟨Nat.le_refl _, Nat.le_refl _⟩
  unfold instrV
  split
  · exact okk_err
  split
  · exact okk_err
  split
  · exact okk_err
  split
  · rename_i f hf
    exact sm_act hf (h0 _)
  · exact okk_bnd okk_any fun n1 d _ => okk_bnd okk_any fun n2 _ _ => sm_value (x := { ins0 (atV s l n) with dst := d }) (h0 (atV s l n))
theorem sm_code : ∀ (f n c : Nat) (xs : List Ins) (j : Nat), xs.length ≤ j → (∀ x, x ∈ xs → Sm (cap l) x) → Okk (fun q : Nat × List Ins => q.2.length ≤ j + f ∧ ∀ x, x ∈ q.2 → Sm (cap l) x) (codeF s l f n c xs)
  | 0, n, c, xs, j, hj, hx => okk_err
  | f + 1, n, c, xs, j, hj, hx => by
    rw [codeF]
    split
    · exact okk_ok ⟨by show xs.length ≤ _; omega, hx⟩
    · refine okk_bnd sm_instr fun n' y hy => ?_
      have := sm_code f n' (c + 1) (xs ++ [y]) (j + 1) (by rw [List.length_append]; simp only [List.length_cons, List.length_nil]; omega) fun x hx' => by
        rcases List.mem_append.1 hx' with h | h
        · exact hx x h
        · obtain rfl := List.mem_singleton.1 h; exact hy
      rw [show j + 1 + f = j + (f + 1) by omega] at this
      exact this
def SmB (l : List Tok) (b : Blk) : Prop := b.code.length ≤ 4098 ∧ ∀ x, x ∈ b.code → Sm (cap l) x
theorem sm_block {n c : Nat} : Okk (fun q : Nat × Blk => SmB l q.2) (blockV s l n c) :=
  okk_bnd okk_any fun n1 nm _ => okk_bnd okk_any fun n2 _ _ => okk_bnd (sm_code 4098 n2 c [] 0 (by simp) (by simp)) fun n3 q hq => okk_ok ⟨by have := hq.1; show q.2.length ≤ _; omega, hq.2⟩
theorem sm_blocks : ∀ (f n c : Nat) (bs : List Blk) (j : Nat), bs.length ≤ j → (∀ x, x ∈ bs → SmB l x) → Okk (fun q : Nat × List Blk => q.2.length ≤ j + f ∧ ∀ x, x ∈ q.2 → SmB l x) (blocksF s l f n c bs)
  | 0, n, c, xs, j, hj, hx => okk_err
  | f + 1, n, c, xs, j, hj, hx => by
    rw [blocksF]
    split
    · split
      · exact okk_err
      · refine okk_bnd sm_block fun n' y hy => ?_
        have := sm_blocks f n' y.1 (xs ++ [y.2]) (j + 1) (by rw [List.length_append]; simp only [List.length_cons, List.length_nil]; omega) fun x hx' => by
          rcases List.mem_append.1 hx' with h | h
          · exact hx x h
          · obtain rfl := List.mem_singleton.1 h; exact hy
        rw [show j + 1 + f = j + (f + 1) by omega] at this
        exact this
    · exact okk_ok ⟨by show xs.length ≤ _; omega, hx⟩
def SmF (l : List Tok) (f : Fun) : Prop := f.params.length ≤ 6 ∧ f.blocks.length ≤ 66 ∧ ∀ b, b ∈ f.blocks → SmB l b
theorem sm_func {n c : Nat} : Okk (fun q : Nat × Fun => SmF l q.2) (funcV s l n c) :=
  okk_bnd okk_any fun n1 nm _ => okk_bnd names_len fun n2 ps hp => okk_bnd okk_any fun n3 _ _ => okk_bnd sm_block fun n4 r hr =>
    okk_bnd (sm_blocks 65 n4 r.1 [r.2] 1 (by simp) (fun x hx => by obtain rfl := List.mem_singleton.1 hx; exact hr)) fun n5 q hq => okk_bnd okk_any fun n6 _ _ => okk_ok ⟨hp, by have := hq.1; show q.2.length ≤ _; omega, hq.2⟩
theorem sm_prog : ∀ (f n c : Nat) (p : Prg) (j : Nat), p.arrays.length ≤ j → p.funcs.length ≤ j → (∀ x, x ∈ p.funcs → SmF l x) → Okk (fun q : Prg => q.arrays.length ≤ j + f ∧ q.funcs.length ≤ j + f ∧ ∀ x, x ∈ q.funcs → SmF l x) (progF s l f n c p)
  | 0, n, c, p, j, h1, h2, h3 => okk_err
  | f + 1, n, c, p, j, h1, h2, h3 => by
    rw [progF]
    split
    · split
      · split
        · exact okk_err
        · refine okk_bnd okk_any fun n' x _ => ?_
          have := sm_prog f n' c ⟨p.arrays ++ [x], p.funcs⟩ (j + 1) (by rw [List.length_append]; simp only [List.length_cons, List.length_nil]; omega) (by show p.funcs.length ≤ _; omega) h3
          rw [show j + 1 + f = j + (f + 1) by omega] at this
          exact this
      · split
        · split
          · exact okk_err
          · refine okk_bnd sm_func fun n' y hy => ?_
            have := sm_prog f n' y.1 ⟨p.arrays, p.funcs ++ [y.2]⟩ (j + 1) (by show p.arrays.length ≤ _; omega) (by rw [List.length_append]; simp only [List.length_cons, List.length_nil]; omega) fun x hx' => by
              rcases List.mem_append.1 hx' with h | h
              · exact h3 x h
              · obtain rfl := List.mem_singleton.1 h; exact hy
            rw [show j + 1 + f = j + (f + 1) by omega] at this
            exact this
        · exact okk_err
    · exact okk_ok ⟨by omega, by omega, h3⟩
end
theorem parse_small (s : ByteArray) : SmallP (parseV s).1 := by
  have hnil : SmallP ⟨[], []⟩ := ⟨Nat.zero_le _, Nat.zero_le _, fun f hf => by cases hf⟩
  unfold parseV
  split
  · rename_i h0
    have hsm := all_small h0
    have hl := all_len s
    have hp := sm_prog (s := s) (l := (allV s).1) ((allV s).1.length + 1) 0 0 ⟨[], []⟩ 0 (Nat.zero_le _) (Nat.zero_le _) (fun x hx => by cases hx)
    rcases hP : progF s (allV s).1 ((allV s).1.length + 1) 0 0 ⟨[], []⟩ with ⟨a, e⟩ | ⟨n, p⟩
    · exact hnil
    · obtain ⟨h1, h2, h3⟩ := hp n p hP
      refine ⟨by unfold bigL; show p.arrays.length ≤ _; omega, by unfold bigL; show p.funcs.length ≤ _; omega, fun f hf => ?_⟩
      obtain ⟨g1, g2, g3⟩ := h3 f hf
      refine ⟨by unfold bigL; omega, by unfold bigL; omega, fun b hb => ?_⟩
      obtain ⟨k1, k2⟩ := g3 b hb
      refine ⟨by unfold bigL; omega, fun x hx => ?_⟩
      have k3 := k2 x hx
      unfold Sm cap at k3
      exact ⟨by unfold bigL; omega, by unfold bigL; omega⟩
  · exact hnil

/-! ### each is like itself -/
theorem allF_true {f : Nat → Bool} {k i : Nat} (h : ∀ j, f j = true) : allF f k i = true := allF_iff.2 fun j _ _ => h j
theorem textsB_self (a : List ByteArray) : textsB a a = true := by
  unfold textsB
  rw [decide_eq_true rfl, allF_true fun j => decide_eq_true rfl]; rfl
theorem sameInsB_self (a : Ins) (p : Bool) : sameInsB a a p = true := by
  unfold sameInsB
  simp [textsB_self]
theorem sameBlkB_self (a : Blk) (p : Bool) : sameBlkB a a p = true := by
  unfold sameBlkB
  rw [allF_true (f := sameCodeB a.code a.code p) fun j => sameInsB_self _ p]
  simp
theorem sameFunB_self (a : Fun) (p : Bool) : sameFunB a a p = true := by
  unfold sameFunB
  rw [allF_true fun j => sameBlkB_self _ p, textsB_self]
  simp
theorem sameArrB_self (a : Arr) (p : Bool) : sameArrB a a p = true := by
  unfold sameArrB
  simp
theorem sameB_self (a : Prg) (p : Bool) : sameB a a p = true := by
  unfold sameB
  rw [allF_true fun j => sameArrB_self _ p, allF_true fun j => sameFunB_self _ p]
  simp
end Go.Proofs.YteeofakohenpoaaGreatDoor

/- What may be fits; the chapter's example. -/
namespace Go.Proofs.YteeofakohenpoaaGreatDoor
open Go.Sx
set_option linter.unusedVariables false
set_option linter.unusedSimpArgs false
set_option maxRecDepth 100000

theorem shape_kind {k : Int} {q : Int × Bool × Bool × Bool} (h : shapeV k = some q) : 1 ≤ k ∧ k ≤ 13 := by
  refine Classical.byContradiction fun hk => ?_
  unfold shapeV at h
  rw [if_neg (by omega), if_neg (by omega), if_neg (by omega), if_neg (by omega), if_neg (by omega), if_neg (by omega), if_neg (by omega), if_neg (by omega), if_neg (by omega), if_neg (by omega), if_neg (by omega), if_neg (by omega)] at h
  cases h
theorem right_kind {x : Ins} (h : rightI x = true) : 1 ≤ x.kind ∧ x.kind ≤ 13 := by
  rcases right_cases h with ⟨h1, _⟩ | ⟨n, d, r, a, e, _, _⟩
  · omega
  · exact shape_kind e
theorem right_op {x : Ins} (h : rightI x = true) : 0 ≤ x.op ∧ x.op < 13 := by
  rcases right_cases h with ⟨_, hp⟩ | ⟨n, d, r, a, e, _, hi, ho⟩
  · have := hp.op; omega
  · by_cases hk : x.kind = 2
    · have := ho hk
      refine Classical.byContradiction fun hc => this ?_
      unfold opName
      by_cases h13 : 13 ≤ x.op
      · rw [if_pos h13]; rfl
      · rw [if_neg h13, show x.op.toNat = 0 by omega]; rfl
    · have : x.op = 0 := Classical.byContradiction fun hc => hk (hi.op.1 hc)
      omega
theorem small_fit {x : Ins} (h : rightI x = true) (hn : inI64 x.num) : FitI x := by
  have hk := right_kind h
  have ho := right_op h
  obtain ⟨s1, s2, s3, s4, s5, s6, s7⟩ := right_small h
  refine ⟨by omega, by omega, by unfold okL; omega, by unfold okL; omega, by unfold okL; omega, by unfold bigN; omega, by unfold bigN; omega, fun a ha => by have := s4 a ha; unfold okL; omega, fun a ha => by have := s5 a ha; unfold okL; omega, hn⟩
theorem right_fit {p : Prg} (h : rightP p = true) (hn : ∀ f, f ∈ p.funcs → ∀ b, b ∈ f.blocks → ∀ x, x ∈ b.code → inI64 x.num) : FitP p := by
  obtain ⟨r1, r2, r3, r4⟩ := right_prg h
  refine ⟨by unfold bigL; omega, fun a ha => ?_, by unfold bigL; omega, fun f hf => ?_⟩
  · have hk := r3 a ha
    unfold arrOK at hk
    simp only [Bool.not_eq_true', Bool.or_eq_false_iff, decide_eq_false_iff_not, Bool.not_eq_false'] at hk
    obtain ⟨⟨⟨h1, h2⟩, h3⟩, h4⟩ := hk
    have s1 := okN_size h1
    have s2 := okN_size h2
    exact ⟨by unfold okL; omega, by unfold okL; omega, by unfold inI64; omega⟩
  · obtain ⟨f1, f2, f3, f4, f5⟩ := r4 f hf
    have s1 := okN_size f1
    refine ⟨by unfold okL; omega, by unfold bigN; omega, fun a ha => by have := allN_size f2 a ha; unfold okL; omega, by unfold bigL; omega, fun b hb => ?_⟩
    obtain ⟨b1, b2, b3⟩ := f5 b hb
    have s2 := okN_size b1
    exact ⟨by unfold okL; omega, by unfold bigL; omega, fun x hx => small_fit (b2 x hx) (hn f hf b hb x hx)⟩
def numsB (p : Prg) : Bool := p.funcs.all fun f => f.blocks.all fun b => b.code.all fun x => decide (-9223372036854775808 ≤ x.num) && decide (x.num ≤ 9223372036854775807)
theorem nums_of {p : Prg} (h : numsB p = true) : ∀ f, f ∈ p.funcs → ∀ b, b ∈ f.blocks → ∀ x, x ∈ b.code → inI64 x.num := fun f hf b hb x hx => by
  unfold numsB at h
  have h1 := List.all_eq_true.1 h f hf
  have h2 := List.all_eq_true.1 h1 b hb
  have h3 := List.all_eq_true.1 h2 x hx
  simp only [Bool.and_eq_true, decide_eq_true_eq] at h3
  unfold inI64; omega
def ex8 : ByteArray := ⟨#[102, 110, 32, 109, 97, 105, 110, 32, 40, 32, 41, 32, 123, 97, 58, 120, 61, 99, 111, 110, 115, 116, 32, 55, 32, 121, 32, 61, 32, 99, 97, 108, 108, 32, 102, 40, 120, 44, 120, 41, 114, 101, 116, 117, 114, 110, 32, 121, 125]⟩
def out8 : ByteArray := ⟨#[102, 110, 32, 109, 97, 105, 110, 40, 41, 32, 123, 10, 97, 58, 10, 32, 32, 120, 32, 61, 32, 99, 111, 110, 115, 116, 32, 55, 10, 32, 32, 121, 32, 61, 32, 99, 97, 108, 108, 32, 102, 40, 120, 44, 32, 120, 41, 10, 32, 32, 114, 101, 116, 117, 114, 110, 32, 121, 10, 125, 10]⟩
theorem ex8_e : (parseV ex8).2.2 = 0 ∧ rightP (parseV ex8).1 = true ∧ numsB (parseV ex8).1 = true := by decide +kernel
theorem ex8_p : (printP (parseV ex8).1).1.data.toList = out8.data.toList ∧ (printP (parseV ex8).1).2 = 0 := by decide +kernel
set_option maxHeartbeats 2000000 in
theorem awake8_spec : Pure PG 10 [] (vb true) [] := by
  refine Proc.mk (cfg 26) tysOK [] Tryz.func10 rfl (by kernel_rfl) rfl rfl rfl ?_
  intro C x
  have s1 : ex8.size ≤ 4611686018427387904 := by show (49 : Nat) ≤ _; decide
  refine x.pure rfl trivial rfl (parse7_spec ex8 s1) ⟨rfl, trivial⟩ ?_
  obtain ⟨a1, a2, a3⟩ := ex8_e
  obtain ⟨b1, b2⟩ := ex8_p
  obtain ⟨PA, hA⟩ : ∃ P, parseV ex8 = P := ⟨_, rfl⟩
  rw [hA] at a1 a2 a3 b1 b2 ⊢
  refine x.pure rfl trivial rfl (print_spec PA.1 (right_fit a2 (nums_of a3))) ⟨⟨veq0_d rfl, veq0_d rfl, trivial⟩, trivial⟩ ?_
  refine x.exit rfl trivial ?_
  refine ⟨.inr rfl, ?_, trivial, rfl⟩
  show (decide (PA.2.2 = 0) && decide ((printP PA.1).2 = 0) && decide ((printP PA.1).1.data.toList = out8.data.toList)) = true
  rw [a1, b1, b2]
  simp
end Go.Proofs.YteeofakohenpoaaGreatDoor

/- The answer's word on what may be an instruction. -/
namespace Go.Proofs.YteeofakohenpoaaGreatDoor
open Go.Sx
set_option linter.unusedVariables false
set_option linter.unusedSimpArgs false
set_option maxRecDepth 100000

/-- What an instruction of a kind has: how many arguments (9: up to 6; 8: a phi's), which names, and whether there is such a kind. -/
def shapeR (k : Int) : Int × Bool × Bool × Bool × Bool :=
  if k = 1 then (0, true, false, false, true) else
  if k = 2 then (2, true, false, false, true) else
  if k = 3 then (8, true, false, false, true) else
  if k = 4 then (1, true, true, false, true) else
  if k = 5 then (1, true, true, false, true) else
  if k = 6 then (2, false, true, false, true) else
  if k = 7 then (9, true, true, false, true) else
  if k = 8 then (0, true, true, false, true) else
  if k = 9 then (1, false, true, false, true) else
  if k = 10 then (1, true, true, false, true) else
  if k = 11 then (0, false, true, false, true) else
  if k = 12 then (1, false, true, true, true) else
  if k = 13 then (1, false, false, false, true) else
  (0, false, false, false, false)
theorem shape_spec (k : Int) : Pure PG 30 [.d (.int .u8 k)] (.tup [vi (shapeR k).1, vb (shapeR k).2.1, vb (shapeR k).2.2.1, vb (shapeR k).2.2.2.1, vb (shapeR k).2.2.2.2]) [] := by
  refine Proc.mk (cfg 33) tysOK [] Tryz.func30 rfl (by kernel_rfl) rfl rfl rfl ?_
  intro C x
  refine x.cond rfl trivial (fun h => ?_) (fun h => ?_)
  · have h : k = 1 := of_decide_eq_true h
    have e : shapeR k = (0, true, false, false, true) := by unfold shapeR; rw [if_pos h]
    refine x.exit rfl trivial ?_
    rw [e]
    exact ⟨.inr rfl, ⟨rfl, rfl, rfl, rfl, rfl, trivial⟩, trivial, rfl⟩
  have h1 : ¬ k = 1 := of_decide_eq_false h
  refine x.cond rfl trivial (fun h => ?_) (fun h => ?_)
  · have h : k = 2 := of_decide_eq_true h
    have e : shapeR k = (2, true, false, false, true) := by unfold shapeR; rw [if_neg h1, if_pos h]
    refine x.exit rfl trivial ?_
    rw [e]
    exact ⟨.inr rfl, ⟨rfl, rfl, rfl, rfl, rfl, trivial⟩, trivial, rfl⟩
  have h2 : ¬ k = 2 := of_decide_eq_false h
  refine x.cond rfl trivial (fun h => ?_) (fun h => ?_)
  · have h : k = 3 := of_decide_eq_true h
    have e : shapeR k = (8, true, false, false, true) := by unfold shapeR; rw [if_neg h1, if_neg h2, if_pos h]
    refine x.exit rfl trivial ?_
    rw [e]
    exact ⟨.inr rfl, ⟨rfl, rfl, rfl, rfl, rfl, trivial⟩, trivial, rfl⟩
  have h3 : ¬ k = 3 := of_decide_eq_false h
  refine x.cond rfl trivial (fun h => ?_) (fun h => ?_)
  · have h : k = 4 := of_decide_eq_true h
    have e : shapeR k = (1, true, true, false, true) := by unfold shapeR; rw [if_neg h1, if_neg h2, if_neg h3, if_pos h]
    refine x.cond rfl trivial (fun _ => ?_) (fun h2 => absurd h (of_decide_eq_false h2))
    refine x.exit rfl trivial ?_
    rw [e]
    exact ⟨.inr rfl, ⟨rfl, rfl, rfl, rfl, rfl, trivial⟩, trivial, rfl⟩
  have h4 : ¬ k = 4 := of_decide_eq_false h
  refine x.cond rfl trivial (fun h => ?_) (fun h => ?_)
  · have h : k = 5 := of_decide_eq_true h
    have e : shapeR k = (1, true, true, false, true) := by unfold shapeR; rw [if_neg h1, if_neg h2, if_neg h3, if_neg h4, if_pos h]
    refine x.exit rfl trivial ?_
    rw [e]
    exact ⟨.inr rfl, ⟨rfl, rfl, rfl, rfl, rfl, trivial⟩, trivial, rfl⟩
  have h5 : ¬ k = 5 := of_decide_eq_false h
  refine x.cond rfl trivial (fun h => ?_) (fun h => ?_)
  · have h : k = 6 := of_decide_eq_true h
    have e : shapeR k = (2, false, true, false, true) := by unfold shapeR; rw [if_neg h1, if_neg h2, if_neg h3, if_neg h4, if_neg h5, if_pos h]
    refine x.exit rfl trivial ?_
    rw [e]
    exact ⟨.inr rfl, ⟨rfl, rfl, rfl, rfl, rfl, trivial⟩, trivial, rfl⟩
  have h6 : ¬ k = 6 := of_decide_eq_false h
  refine x.cond rfl trivial (fun h => ?_) (fun h => ?_)
  · have h : k = 7 := of_decide_eq_true h
    have e : shapeR k = (9, true, true, false, true) := by unfold shapeR; rw [if_neg h1, if_neg h2, if_neg h3, if_neg h4, if_neg h5, if_neg h6, if_pos h]
    refine x.exit rfl trivial ?_
    rw [e]
    exact ⟨.inr rfl, ⟨rfl, rfl, rfl, rfl, rfl, trivial⟩, trivial, rfl⟩
  have h7 : ¬ k = 7 := of_decide_eq_false h
  refine x.cond rfl trivial (fun h => ?_) (fun h => ?_)
  · have h : k = 8 := of_decide_eq_true h
    have e : shapeR k = (0, true, true, false, true) := by unfold shapeR; rw [if_neg h1, if_neg h2, if_neg h3, if_neg h4, if_neg h5, if_neg h6, if_neg h7, if_pos h]
    refine x.exit rfl trivial ?_
    rw [e]
    exact ⟨.inr rfl, ⟨rfl, rfl, rfl, rfl, rfl, trivial⟩, trivial, rfl⟩
  have h8 : ¬ k = 8 := of_decide_eq_false h
  refine x.cond rfl trivial (fun h => ?_) (fun h => ?_)
  · have h : k = 9 := of_decide_eq_true h
    have e : shapeR k = (1, false, true, false, true) := by unfold shapeR; rw [if_neg h1, if_neg h2, if_neg h3, if_neg h4, if_neg h5, if_neg h6, if_neg h7, if_neg h8, if_pos h]
    refine x.exit rfl trivial ?_
    rw [e]
    exact ⟨.inr rfl, ⟨rfl, rfl, rfl, rfl, rfl, trivial⟩, trivial, rfl⟩
  have h9 : ¬ k = 9 := of_decide_eq_false h
  refine x.cond rfl trivial (fun h => ?_) (fun h => ?_)
  · have h : k = 10 := of_decide_eq_true h
    have e : shapeR k = (1, true, true, false, true) := by unfold shapeR; rw [if_neg h1, if_neg h2, if_neg h3, if_neg h4, if_neg h5, if_neg h6, if_neg h7, if_neg h8, if_neg h9, if_pos h]
    refine x.exit rfl trivial ?_
    rw [e]
    exact ⟨.inr rfl, ⟨rfl, rfl, rfl, rfl, rfl, trivial⟩, trivial, rfl⟩
  have h10 : ¬ k = 10 := of_decide_eq_false h
  refine x.cond rfl trivial (fun h => ?_) (fun h => ?_)
  · have h : k = 11 := of_decide_eq_true h
    have e : shapeR k = (0, false, true, false, true) := by unfold shapeR; rw [if_neg h1, if_neg h2, if_neg h3, if_neg h4, if_neg h5, if_neg h6, if_neg h7, if_neg h8, if_neg h9, if_neg h10, if_pos h]
    refine x.exit rfl trivial ?_
    rw [e]
    exact ⟨.inr rfl, ⟨rfl, rfl, rfl, rfl, rfl, trivial⟩, trivial, rfl⟩
  have h11 : ¬ k = 11 := of_decide_eq_false h
  refine x.cond rfl trivial (fun h => ?_) (fun h => ?_)
  · have h : k = 12 := of_decide_eq_true h
    have e : shapeR k = (1, false, true, true, true) := by unfold shapeR; rw [if_neg h1, if_neg h2, if_neg h3, if_neg h4, if_neg h5, if_neg h6, if_neg h7, if_neg h8, if_neg h9, if_neg h10, if_neg h11, if_pos h]
    refine x.exit rfl trivial ?_
    rw [e]
    exact ⟨.inr rfl, ⟨rfl, rfl, rfl, rfl, rfl, trivial⟩, trivial, rfl⟩
  have h12 : ¬ k = 12 := of_decide_eq_false h
  refine x.cond rfl trivial (fun h => ?_) (fun h => ?_)
  · have h : k = 13 := of_decide_eq_true h
    have e : shapeR k = (1, false, false, false, true) := by unfold shapeR; rw [if_neg h1, if_neg h2, if_neg h3, if_neg h4, if_neg h5, if_neg h6, if_neg h7, if_neg h8, if_neg h9, if_neg h10, if_neg h11, if_neg h12, if_pos h]
    refine x.exit rfl trivial ?_
    rw [e]
    exact ⟨.inr rfl, ⟨rfl, rfl, rfl, rfl, rfl, trivial⟩, trivial, rfl⟩
  have h13 : ¬ k = 13 := of_decide_eq_false h
  have e : shapeR k = (0, false, false, false, false) := by unfold shapeR; rw [if_neg h1, if_neg h2, if_neg h3, if_neg h4, if_neg h5, if_neg h6, if_neg h7, if_neg h8, if_neg h9, if_neg h10, if_neg h11, if_neg h12, if_neg h13]
  refine x.exit rfl trivial ?_
  rw [e]
  exact ⟨.inr rfl, ⟨rfl, rfl, rfl, rfl, rfl, trivial⟩, trivial, rfl⟩
theorem rname_spec (s : ByteArray) (hs : s.size ≤ okL) : Pure PG 26 [vs s] (vb (okN s)) [] := by
  refine Proc.mk (cfg 10) tysOK [] Tryz.func26 rfl (by kernel_rfl) rfl rfl rfl ?_
  intro C x
  refine x.pure rfl trivial rfl (ref_name_spec s (by unfold okL at hs; omega)) ⟨rfl, trivial⟩ ?_
  refine x.pureG rfl trivial rfl (fun _ => refword_spec s) rfl ⟨rfl, trivial⟩ ?_
  refine x.exit rfl trivial ?_
  refine ⟨.inr rfl, ?_, trivial, rfl⟩
  show (refNameV s && !wordB s) = okN s
  rw [← name_eq]
  rfl
theorem rnames_spec (l : List ByteArray) (hl : l.length ≤ bigN) (hs : ∀ a, a ∈ l → a.size ≤ okL) : Pure PG 27 [.d (dStrs l)] (vb (allN l)) [] := by
  refine Proc.mk (cfg 16) tysOK [] Tryz.func27 rfl (by kernel_rfl) rfl rfl rfl ?_
  intro C x
  unfold bigN at hl
  obtain ⟨R, hR⟩ : ∃ R, allN l = R := ⟨_, rfl⟩
  have hR2 : allF (fun i => okN (l.getD i .empty)) l.length 0 = R := by rw [allN_F]; exact hR
  rw [hR]
  refine x.loop (α := AW (fun i => okN (l.getD i .empty)) l.length R) (fun y => ⟨[(0, .d (dStrs l)), (3, vi (y.i : Int))], [], 0⟩) (fun y => l.length - y.i) ⟨0, Nat.zero_le _, hR2⟩ rfl trivial ⟨⟨veq_d rfl, rfl, trivial⟩, trivial, rfl⟩ (fun y => ?_)
  obtain ⟨i, hi, same⟩ := y
  change Go C _ ⟨[(0, .d (dStrs l)), (3, vi (i : Int))], [], 0⟩ _
  refine x.cond rfl trivial (fun h2 => ?_) (fun h2 => ?_)
  · have h2 : (i : Int) < (l.length : Int) := of_decide_eq_true h2
    have h2 : i < l.length := by omega
    refine x.pure rfl (by simp only [AllP]; omega) rfl (rname_spec (l.getD ((i : Int).toNat) .empty) (hs _ (by rw [Int.toNat_natCast]; exact getD_mem h2))) ⟨rfl, trivial⟩ ?_
    rw [Int.toNat_natCast]
    refine x.cond rfl trivial (fun h3 => ?_) (fun h3 => ?_)
    · have h3 : (!okN (l.getD i .empty)) = true := h3
      refine x.exit rfl trivial ?_
      rw [AW.stop h2 same (by simpa using h3)]
      exact ⟨.inr rfl, rfl, trivial, rfl⟩
    · have h3 : (!okN (l.getD i .empty)) = false := h3
      refine x.back rfl (by simp only [AllP, inI64]; omega) ⟨⟨i + 1, by omega, AW.step h2 same (by simpa using h3)⟩, by show l.length - (i + 1) < l.length - i; omega, ⟨veq_d rfl, ?_, trivial⟩, trivial, rfl⟩
      show VEq0 (vi ((i : Int) + 1)) (vi ((i + 1 : Nat) : Int)); rw [Int.natCast_add]; rfl
  · have h2 : ¬ (i : Int) < (l.length : Int) := of_decide_eq_false h2
    refine x.exit rfl trivial ?_
    rw [AW.fin (by omega) hi same]
    exact ⟨.inr rfl, rfl, trivial, rfl⟩
theorem rone_spec (s : ByteArray) (b : Bool) (hs : s.size ≤ okL) : Pure PG 31 [vs s, vb b] (vb (fitsV s b)) [] := by
  refine Proc.mk (cfg 11) tysOK [] Tryz.func31 rfl (by kernel_rfl) rfl rfl rfl ?_
  intro C x
  refine x.cond rfl trivial (fun h => ?_) (fun h => ?_)
  · have h : b = true := h
    refine x.pure rfl trivial rfl (rname_spec s hs) ⟨rfl, trivial⟩ ?_
    refine x.exit rfl trivial ?_
    refine ⟨.inr rfl, ?_, trivial, rfl⟩
    show okN s = fitsV s b
    unfold fitsV
    rw [h]; simp
  · have h : b = false := h
    refine x.exit rfl trivial ?_
    refine ⟨.inr rfl, ?_, trivial, rfl⟩
    show decide ((s.size : Int) = 0) = fitsV s b
    unfold fitsV
    rw [h]
    simp only [Bool.false_and, Bool.not_false, Bool.true_and, Bool.false_or]
    rw [decide_eq_decide, size_list]
    constructor
    · intro h; exact List.length_eq_zero_iff.1 (by omega)
    · intro h; rw [h]; rfl
/-! ### the two words are one -/
theorem opn (o : Int) (h : 0 ≤ o) : decide ((opName o).data.toList = []) = (decide (o < 1) || decide (12 < o)) := by
  unfold opName
  by_cases h13 : 13 ≤ o
  · rw [if_pos h13, decide_eq_true (show 12 < o by omega)]
    simp
  · rw [if_neg h13]
    have : ∀ n, n < 13 → decide ((opAt n).data.toList = []) = (decide ((n : Int) < 1) || decide (12 < (n : Int))) := by decide +kernel
    have h2 := this o.toNat (by omega)
    rwa [show ((o.toNat : Nat) : Int) = o by omega] at h2
def rightR (x : Ins) : Bool :=
  if (!(shapeR x.kind).2.2.2.2 || !fitsV x.dst (shapeR x.kind).2.1 || !fitsV x.ref (shapeR x.kind).2.2.1 || !fitsV x.alt (shapeR x.kind).2.2.2.1 || !allN x.args || !allN x.frm) = true then false
  else if ((!decide (x.kind = 1) && !decide (x.num = 0)) || (!decide (x.kind = 2) && !decide (x.op = 0)) || (decide (x.kind = 2) && (decide (x.op < 1) || decide (12 < x.op)))) = true then false
  else if (shapeR x.kind).1 = 8 then decide (x.args.length = x.frm.length) && decide (1 ≤ x.args.length) && decide (x.args.length ≤ 64)
  else if (shapeR x.kind).1 = 9 then decide (x.frm.length = 0) && decide (x.args.length ≤ 6)
  else decide (x.frm.length = 0) && decide ((x.args.length : Int) = (shapeR x.kind).1)
theorem shapeR_some {k n : Int} {d r a : Bool} (h : shapeV k = some (n, d, r, a)) : shapeR k = (if n = -1 then 9 else n, d, r, a, true) ∧ k ≠ 3 ∧ (n = -1 ∨ (0 ≤ n ∧ n ≤ 2)) := by
  unfold shapeV at h
  by_cases e1 : k = 1
  · rw [if_pos e1] at h
    obtain ⟨rfl, rfl, rfl, rfl⟩ : (0 : Int) = n ∧ true = d ∧ false = r ∧ false = a := by simpa using h
    refine ⟨?_, by omega, by omega⟩
    unfold shapeR
    rw [if_pos e1]
    rfl
  rw [if_neg e1] at h
  by_cases e2 : k = 2
  · rw [if_pos e2] at h
    obtain ⟨rfl, rfl, rfl, rfl⟩ : (2 : Int) = n ∧ true = d ∧ false = r ∧ false = a := by simpa using h
    refine ⟨?_, by omega, by omega⟩
    unfold shapeR
    rw [if_neg e1, if_pos e2]
    rfl
  rw [if_neg e2] at h
  by_cases e4 : k = 4
  · rw [if_pos e4] at h
    obtain ⟨rfl, rfl, rfl, rfl⟩ : (1 : Int) = n ∧ true = d ∧ true = r ∧ false = a := by simpa using h
    refine ⟨?_, by omega, by omega⟩
    unfold shapeR
    rw [if_neg e1, if_neg e2, if_neg (show ¬ k = 3 by omega), if_pos e4]
    rfl
  rw [if_neg e4] at h
  by_cases e5 : k = 5
  · rw [if_pos e5] at h
    obtain ⟨rfl, rfl, rfl, rfl⟩ : (1 : Int) = n ∧ true = d ∧ true = r ∧ false = a := by simpa using h
    refine ⟨?_, by omega, by omega⟩
    unfold shapeR
    rw [if_neg e1, if_neg e2, if_neg (show ¬ k = 3 by omega), if_neg e4, if_pos e5]
    rfl
  rw [if_neg e5] at h
  by_cases e6 : k = 6
  · rw [if_pos e6] at h
    obtain ⟨rfl, rfl, rfl, rfl⟩ : (2 : Int) = n ∧ false = d ∧ true = r ∧ false = a := by simpa using h
    refine ⟨?_, by omega, by omega⟩
    unfold shapeR
    rw [if_neg e1, if_neg e2, if_neg (show ¬ k = 3 by omega), if_neg e4, if_neg e5, if_pos e6]
    rfl
  rw [if_neg e6] at h
  by_cases e7 : k = 7
  · rw [if_pos e7] at h
    obtain ⟨rfl, rfl, rfl, rfl⟩ : (-1 : Int) = n ∧ true = d ∧ true = r ∧ false = a := by simpa using h
    refine ⟨?_, by omega, by omega⟩
    unfold shapeR
    rw [if_neg e1, if_neg e2, if_neg (show ¬ k = 3 by omega), if_neg e4, if_neg e5, if_neg e6, if_pos e7]
    rfl
  rw [if_neg e7] at h
  by_cases e8 : k = 8
  · rw [if_pos e8] at h
    obtain ⟨rfl, rfl, rfl, rfl⟩ : (0 : Int) = n ∧ true = d ∧ true = r ∧ false = a := by simpa using h
    refine ⟨?_, by omega, by omega⟩
    unfold shapeR
    rw [if_neg e1, if_neg e2, if_neg (show ¬ k = 3 by omega), if_neg e4, if_neg e5, if_neg e6, if_neg e7, if_pos e8]
    rfl
  rw [if_neg e8] at h
  by_cases e9 : k = 9
  · rw [if_pos e9] at h
    obtain ⟨rfl, rfl, rfl, rfl⟩ : (1 : Int) = n ∧ false = d ∧ true = r ∧ false = a := by simpa using h
    refine ⟨?_, by omega, by omega⟩
    unfold shapeR
    rw [if_neg e1, if_neg e2, if_neg (show ¬ k = 3 by omega), if_neg e4, if_neg e5, if_neg e6, if_neg e7, if_neg e8, if_pos e9]
    rfl
  rw [if_neg e9] at h
  by_cases e10 : k = 10
  · rw [if_pos e10] at h
    obtain ⟨rfl, rfl, rfl, rfl⟩ : (1 : Int) = n ∧ true = d ∧ true = r ∧ false = a := by simpa using h
    refine ⟨?_, by omega, by omega⟩
    unfold shapeR
    rw [if_neg e1, if_neg e2, if_neg (show ¬ k = 3 by omega), if_neg e4, if_neg e5, if_neg e6, if_neg e7, if_neg e8, if_neg e9, if_pos e10]
    rfl
  rw [if_neg e10] at h
  by_cases e11 : k = 11
  · rw [if_pos e11] at h
    obtain ⟨rfl, rfl, rfl, rfl⟩ : (0 : Int) = n ∧ false = d ∧ true = r ∧ false = a := by simpa using h
    refine ⟨?_, by omega, by omega⟩
    unfold shapeR
    rw [if_neg e1, if_neg e2, if_neg (show ¬ k = 3 by omega), if_neg e4, if_neg e5, if_neg e6, if_neg e7, if_neg e8, if_neg e9, if_neg e10, if_pos e11]
    rfl
  rw [if_neg e11] at h
  by_cases e12 : k = 12
  · rw [if_pos e12] at h
    obtain ⟨rfl, rfl, rfl, rfl⟩ : (1 : Int) = n ∧ false = d ∧ true = r ∧ true = a := by simpa using h
    refine ⟨?_, by omega, by omega⟩
    unfold shapeR
    rw [if_neg e1, if_neg e2, if_neg (show ¬ k = 3 by omega), if_neg e4, if_neg e5, if_neg e6, if_neg e7, if_neg e8, if_neg e9, if_neg e10, if_neg e11, if_pos e12]
    rfl
  rw [if_neg e12] at h
  by_cases e13 : k = 13
  · rw [if_pos e13] at h
    obtain ⟨rfl, rfl, rfl, rfl⟩ : (1 : Int) = n ∧ false = d ∧ false = r ∧ false = a := by simpa using h
    refine ⟨?_, by omega, by omega⟩
    unfold shapeR
    rw [if_neg e1, if_neg e2, if_neg (show ¬ k = 3 by omega), if_neg e4, if_neg e5, if_neg e6, if_neg e7, if_neg e8, if_neg e9, if_neg e10, if_neg e11, if_neg e12, if_pos e13]
    rfl
  rw [if_neg e13] at h
  cases h
theorem shapeR_none {k : Int} (h : shapeV k = none) (h3 : k ≠ 3) : shapeR k = (0, false, false, false, false) := by
  unfold shapeV at h
  by_cases e1 : k = 1
  · rw [if_pos e1] at h; cases h
  rw [if_neg e1] at h
  by_cases e2 : k = 2
  · rw [if_pos e2] at h; cases h
  rw [if_neg e2] at h
  by_cases e4 : k = 4
  · rw [if_pos e4] at h; cases h
  rw [if_neg e4] at h
  by_cases e5 : k = 5
  · rw [if_pos e5] at h; cases h
  rw [if_neg e5] at h
  by_cases e6 : k = 6
  · rw [if_pos e6] at h; cases h
  rw [if_neg e6] at h
  by_cases e7 : k = 7
  · rw [if_pos e7] at h; cases h
  rw [if_neg e7] at h
  by_cases e8 : k = 8
  · rw [if_pos e8] at h; cases h
  rw [if_neg e8] at h
  by_cases e9 : k = 9
  · rw [if_pos e9] at h; cases h
  rw [if_neg e9] at h
  by_cases e10 : k = 10
  · rw [if_pos e10] at h; cases h
  rw [if_neg e10] at h
  by_cases e11 : k = 11
  · rw [if_pos e11] at h; cases h
  rw [if_neg e11] at h
  by_cases e12 : k = 12
  · rw [if_pos e12] at h; cases h
  rw [if_neg e12] at h
  by_cases e13 : k = 13
  · rw [if_pos e13] at h; cases h
  rw [if_neg e13] at h
  unfold shapeR
  rw [if_neg e1, if_neg e2, if_neg h3, if_neg e4, if_neg e5, if_neg e6, if_neg e7, if_neg e8, if_neg e9, if_neg e10, if_neg e11, if_neg e12, if_neg e13]
theorem bool_core : ∀ (k1 k2 o0 w m A F fd fr fa la : Bool), (k2 = true → k1 = false) → (o0 = true → w = true) →
    (if ((((((!o0) != k2) || (!o0 && w)) || (!m && !k1)) || !A) || !F) = true then false else (la && (fd && fr && fa))) = (if (!true || !fd || !fr || !fa || !A || !F) = true then false else if ((!k1 && !m) || (!k2 && !o0) || (k2 && w)) = true then false else la) := by decide +kernel
theorem rightR_eq (x : Ins) (ho : 0 ≤ x.op) : rightR x = rightI x := by
  have hw := opn x.op ho
  have h0 : decide (x.op = 0) = true → (decide (x.op < 1) || decide (12 < x.op)) = true := fun h => by
    have h : x.op = 0 := of_decide_eq_true h
    rw [decide_eq_true (show x.op < 1 by omega)]; rfl
  unfold rightR rightI
  rw [hw]
  simp only [ne_eq, decide_not]
  by_cases h3 : x.kind = 3
  · have e : shapeR x.kind = (8, true, false, false, true) := by rw [h3]; rfl
    rw [e, if_pos h3]
    dsimp only
    rw [if_pos rfl]
    have ef : ∀ s, fitsV s false = decide (s.data.toList = []) := fun s => by unfold fitsV; simp
    have et : ∀ s, fitsV s true = okN s := fun s => by unfold fitsV; simp
    rw [ef, ef, et]
    have k1 : decide (x.kind = 1) = false := decide_eq_false (by omega)
    have k2 : decide (x.kind = 2) = false := decide_eq_false (by omega)
    have core := bool_core (decide (x.kind = 1)) (decide (x.kind = 2)) (decide (x.op = 0)) (decide (x.op < 1) || decide (12 < x.op)) (decide (x.num = 0)) (allN x.args) (allN x.frm) (okN x.dst) (decide (x.ref.data.toList = [])) (decide (x.alt.data.toList = [])) (decide (x.args.length = x.frm.length) && decide (1 ≤ x.args.length) && decide (x.args.length ≤ 64)) (fun h => by rw [k2] at h; cases h) h0
    rw [← core]
    congr 1
    by_cases hl : x.args.length = x.frm.length
    · rw [hl]
      generalize decide (1 ≤ x.frm.length) = b1
      generalize decide (x.frm.length ≤ 64) = b2
      generalize okN x.dst = b3
      generalize decide (x.ref.data.toList = []) = b4
      generalize decide (x.alt.data.toList = []) = b5
      simp
      revert b1 b2 b3 b4 b5
      decide
    · rw [decide_eq_false hl, decide_eq_false (show ¬ x.frm.length = x.args.length by omega)]
      simp
  · rw [if_neg h3]
    cases hs : shapeV x.kind with
    | none =>
      rw [shapeR_none hs h3]
      simp
    | some q =>
      obtain ⟨n, d, r, a⟩ := q
      obtain ⟨e1, e2, e3⟩ := shapeR_some hs
      have hk2 : decide (x.kind = 2) = true → decide (x.kind = 1) = false := fun h => by
        have h : x.kind = 2 := of_decide_eq_true h
        exact decide_eq_false (by omega)
      rw [e1]
      dsimp only
      have core := bool_core (decide (x.kind = 1)) (decide (x.kind = 2)) (decide (x.op = 0)) (decide (x.op < 1) || decide (12 < x.op)) (decide (x.num = 0)) (allN x.args) (allN x.frm) (fitsV x.dst d) (fitsV x.ref r) (fitsV x.alt a) (!(decide (0 < x.frm.length) || (decide (0 ≤ n) && !decide ((x.args.length : Int) = n)) || decide (6 < x.args.length))) hk2 h0
      rw [core]
      congr 1
      congr 1
      by_cases hn : n = -1
      · subst hn
        rw [if_neg (by decide), if_pos (by decide)]
        rw [Bool.eq_iff_iff]
        simp
      · rw [if_neg hn, if_neg (by omega), if_neg (by omega)]
        rw [Bool.eq_iff_iff]
        simp only [Bool.and_eq_true, Bool.not_eq_true', Bool.or_eq_false_iff, Bool.and_eq_false_iff, decide_eq_true_eq, decide_eq_false_iff_not, Bool.not_eq_false']
        omega
set_option maxHeartbeats 4000000 in
theorem rightinstr_spec (x0 : Ins) (hx : FitI x0) : Pure PG 12 [insV x0] (vb (rightI x0)) [] := by
  rw [← rightR_eq x0 hx.op.1]
  refine Proc.mk (cfg 129) tysOK [] Tryz.func12 rfl (by kernel_rfl) rfl rfl rfl ?_
  intro C x
  have ha := hx.alen; have hf := hx.flen
  unfold bigN at ha hf
  unfold rightR
  refine x.pure rfl trivial rfl (shape_spec x0.kind) ⟨rfl, trivial⟩ ?_
  obtain ⟨q, hq⟩ : ∃ q, shapeR x0.kind = q := ⟨_, rfl⟩
  rw [hq]
  obtain ⟨n, d, r, a, b⟩ := q
  dsimp only
  refine x.pureG rfl trivial rfl (fun _ => rone_spec x0.dst d hx.dst) rfl ⟨rfl, rfl, trivial⟩ ?_
  refine x.pureG rfl trivial rfl (fun _ => rone_spec x0.ref r hx.ref) rfl ⟨rfl, rfl, trivial⟩ ?_
  refine x.pureG rfl trivial rfl (fun _ => rone_spec x0.alt a hx.alt) rfl ⟨rfl, rfl, trivial⟩ ?_
  refine x.pureG rfl trivial rfl (fun _ => rnames_spec x0.args hx.alen hx.args) rfl ⟨veq_d rfl, trivial⟩ ?_
  refine x.pureG rfl trivial rfl (fun _ => rnames_spec x0.frm hx.flen hx.frm) rfl ⟨veq_d rfl, trivial⟩ ?_
  refine x.cond rfl trivial (fun h => ?_) (fun h => ?_)
  · have h : (!b || !fitsV x0.dst d || !fitsV x0.ref r || !fitsV x0.alt a || !allN x0.args || !allN x0.frm) = true := h
    rw [if_pos h]
    refine x.exit rfl trivial ?_
    exact ⟨.inr rfl, rfl, trivial, rfl⟩
  have h : (!b || !fitsV x0.dst d || !fitsV x0.ref r || !fitsV x0.alt a || !allN x0.args || !allN x0.frm) = false := h
  rw [if_neg (by rw [h]; decide)]
  clear h
  refine x.cond rfl trivial (fun h => ?_) (fun h => ?_)
  · have h : ((!decide (x0.kind = 1) && !decide (x0.num = 0)) || (!decide (x0.kind = 2) && !decide (x0.op = 0)) || (decide (x0.kind = 2) && (decide (x0.op < 1) || decide (12 < x0.op)))) = true := h
    rw [if_pos h]
    refine x.exit rfl trivial ?_
    exact ⟨.inr rfl, rfl, trivial, rfl⟩
  have h : ((!decide (x0.kind = 1) && !decide (x0.num = 0)) || (!decide (x0.kind = 2) && !decide (x0.op = 0)) || (decide (x0.kind = 2) && (decide (x0.op < 1) || decide (12 < x0.op)))) = false := h
  rw [if_neg (by rw [h]; decide)]
  clear h
  refine x.cond rfl trivial (fun h => ?_) (fun h => ?_)
  · have h : n = 8 := of_decide_eq_true h
    rw [if_pos h]
    refine x.exit rfl trivial ?_
    refine ⟨.inr rfl, ?_, trivial, rfl⟩
    show (decide ((x0.args.length : Int) = x0.frm.length) && decide (1 ≤ (x0.args.length : Int)) && decide ((x0.args.length : Int) ≤ 64)) = _
    rw [show decide ((x0.args.length : Int) = x0.frm.length) = decide (x0.args.length = x0.frm.length) by rw [decide_eq_decide]; omega, show decide (1 ≤ (x0.args.length : Int)) = decide (1 ≤ x0.args.length) by rw [decide_eq_decide]; omega, show decide ((x0.args.length : Int) ≤ 64) = decide (x0.args.length ≤ 64) by rw [decide_eq_decide]; omega]
  have h : ¬ n = 8 := of_decide_eq_false h
  rw [if_neg h]
  refine x.cond rfl trivial (fun h2 => ?_) (fun h2 => ?_)
  · have h2 : n = 9 := of_decide_eq_true h2
    rw [if_pos h2]
    refine x.exit rfl trivial ?_
    refine ⟨.inr rfl, ?_, trivial, rfl⟩
    show (decide ((x0.frm.length : Int) = 0) && decide ((x0.args.length : Int) ≤ 6)) = _
    rw [show decide ((x0.frm.length : Int) = 0) = decide (x0.frm.length = 0) by rw [decide_eq_decide]; omega, show decide ((x0.args.length : Int) ≤ 6) = decide (x0.args.length ≤ 6) by rw [decide_eq_decide]; omega]
  · have h2 : ¬ n = 9 := of_decide_eq_false h2
    rw [if_neg h2]
    refine x.exit rfl trivial ?_
    refine ⟨.inr rfl, ?_, trivial, rfl⟩
    show (decide ((x0.frm.length : Int) = 0) && decide ((x0.args.length : Int) = n)) = _
    rw [show decide ((x0.frm.length : Int) = 0) = decide (x0.frm.length = 0) by rw [decide_eq_decide]; omega]
end Go.Proofs.YteeofakohenpoaaGreatDoor

/- The numbers of operators, the answer's. -/
namespace Go.Proofs.YteeofakohenpoaaGreatDoor
open Go.Sx
set_option linter.unusedVariables false
set_option linter.unusedSimpArgs false
set_option maxRecDepth 100000

abbrev dOps : D := .sl 1 12 fun i => [.str (opAt (i + 1))]
theorem refopnames_spec : Pure PG 52 [] (.own 0) [.vec 9 1 12 fun i => [.str (opAt (i + 1))]] := by
  refine Proc.mk (cfg 2) tysOK [0] Tryz.func52 rfl (by kernel_rfl) rfl rfl rfl ?_
  intro C x
  refine x.exit rfl trivial ?_
  refine ⟨.inr rfl, rfl, ⟨⟨rfl, rfl, rfl, fun i hi => ?_⟩, trivial⟩, rfl⟩
  match i, hi with
  | 0, _ => rfl
  | 1, _ => rfl
  | 2, _ => rfl
  | 3, _ => rfl
  | 4, _ => rfl
  | 5, _ => rfl
  | 6, _ => rfl
  | 7, _ => rfl
  | 8, _ => rfl
  | 9, _ => rfl
  | 10, _ => rfl
  | 11, _ => rfl
  | n + 12, h => omega
structure OW2 (s : ByteArray) where
  i : Nat
  hi : i ≤ 12
  same : opF s.data.toList (12 - i) (i + 1) = opV s
end Go.Proofs.YteeofakohenpoaaGreatDoor
