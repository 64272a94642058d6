/- Texts put together: T01W, T01X, T01Y, T03D, T03E, T07A, T07B, T07C, T07D, T07F, T07G, T07H, T07I. -/
import Derived.Test.YteeofakohenpoaaGreatDoorMA
import Derived.Test.YteeofakohenpoaaGreatDoorSxF

/- A number out of its text. -/
namespace Go.Proofs.YteeofakohenpoaaGreatDoor
open Go.Sx
set_option linter.unusedVariables false
set_option linter.unusedSimpArgs false
set_option maxRecDepth 100000

theorem hasPrefix_spec (s p : ByteArray) :
    Pure PG 93 [vs s, vs p] (vb (decide ((p.size : Int) ≤ s.size) && decide ((s.extract 0 p.size).data.toList = p.data.toList))) [] := by
  refine Proc.mk (cfg 18) tysOK [] Tryz.func93 rfl (by kernel_rfl) rfl rfl rfl ?_
  intro C x
  refine x.exit rfl ?_ ?_
  · intro h
    exact ⟨by omega, by simpa using h⟩
  refine ⟨.inr rfl, ?_, trivial, rfl⟩
  show _ = _
  rfl

def cutV (s p : ByteArray) : ByteArray × Bool := if (decide ((p.size : Int) ≤ s.size) && decide ((s.extract 0 p.size).data.toList = p.data.toList)) = true then (s.extract p.size s.size, true) else (s, false)

theorem cut1_spec (s p : ByteArray) : Pure PG 89 [vs s, vs p] (.tup [vs (cutV s p).1, vb (cutV s p).2]) [] := by
  refine Proc.mk (cfg 15) tysOK [] Tryz.func89 rfl (by kernel_rfl) rfl rfl rfl ?_
  intro C x
  refine x.pure rfl trivial rfl (hasPrefix_spec s p) ⟨rfl, rfl, trivial⟩ ?_
  refine x.cond rfl trivial (fun h => ?_) (fun h => ?_)
  · refine x.exit rfl trivial ?_
    refine ⟨.inr rfl, ?_, trivial, rfl⟩
    rw [cutV, if_neg (by simpa only [Bool.not_eq_true', Bool.not_eq_true] using h)]
    exact ⟨rfl, rfl, trivial⟩
  · have h' : (decide ((p.size : Int) ≤ s.size) && decide ((s.extract 0 p.size).data.toList = p.data.toList)) = true := by simpa using h
    refine x.exit rfl ?_ ?_
    · simp only [Bool.and_eq_true, decide_eq_true_eq] at h'
      simp only [AllP]
      omega
    refine ⟨.inr rfl, ?_, trivial, rfl⟩
    rw [cutV, if_pos h']
    exact ⟨rfl, rfl, trivial⟩

theorem cut_spec (s p : ByteArray) : Pure PG 83 [vs s, vs p] (.tup [vs (cutV s p).1, vb (cutV s p).2]) [] := by
  refine Proc.mk (cfg 11) tysOK [] Tryz.func83 rfl (by kernel_rfl) rfl rfl rfl ?_
  intro C x
  refine x.pure rfl trivial rfl (cut1_spec s p) ⟨rfl, rfl, trivial⟩ ?_
  refine x.exit rfl trivial ?_
  exact ⟨.inr rfl, ⟨rfl, rfl, trivial⟩, trivial, rfl⟩

/-- The number that the digits from byte i on make, behind u. -/
def dv (s : ByteArray) : Nat → Nat → Nat → Option Nat
  | 0, _, u => some u
  | n + 1, i, u => if i < s.size then if 48 ≤ bt s i ∧ bt s i ≤ 57 then dv s n (i + 1) (10 * u + (bt s i - 48)) else none else some u
theorem dv_end {s : ByteArray} {n i u : Nat} (h : ¬ i < s.size) : dv s n i u = some u := by
  cases n with
  | zero => rfl
  | succ n => rw [dv, if_neg h]

theorem dec_ascii {sz p a b c d : Nat} (h : a < 128) : dec sz p a b c d = (a, 1) := by rw [dec, if_pos h]
theorem dec_high {sz p a b c d : Nat} (h : ¬ a < 128) : 128 ≤ (dec sz p a b c d).1 := by
  unfold dec
  rw [if_neg h]
  split
  · split
    · rename_i h; exact h
    · simp
  split
  · split
    · rename_i h; exact Nat.le_trans (by omega) h.1
    · simp
  split
  · split
    · rename_i h; exact Nat.le_trans (by omega) h.1
    · simp
  · simp
theorem decode_ascii {s : ByteArray} {p : Nat} (h : bt s p < 128) : Utf8.decode s p = (bt s p, 1) := by rw [decode_eq]; exact dec_ascii h
theorem decode_high {s : ByteArray} {p : Nat} (h : ¬ bt s p < 128) : 128 ≤ (Utf8.decode s p).1 := by rw [decode_eq]; exact dec_high h

def numV (s : ByteArray) : Int × Bool :=
  let d := (cutV s ⟨#[45]⟩).1
  let neg := (cutV s ⟨#[45]⟩).2
  if d.size = 0 ∨ 19 < d.size ∨ (bt d 0 = 48 ∧ (neg = true ∨ 1 < d.size)) then (0, false)
  else match dv d d.size 0 0 with
    | none => (0, false)
    | some u => if neg = true ∧ u ≤ 9223372036854775808 then (-(u : Int), true) else if neg = false ∧ u < 9223372036854775808 then ((u : Int), true) else (0, false)

structure WI (s : ByteArray) where
  n : Nat
  p : Nat
  u : Nat
  fuel : s.size ≤ p + n
  same : dv s n p u = dv s s.size 0 0
  hp : p ≤ s.size
  hu : u < 10 ^ p

theorem number_spec (s : ByteArray) : Pure PG 69 [vs s] (.tup [vi (numV s).1, vb (numV s).2]) [] := by
  refine Proc.mk ⟨66, 0, false, tys⟩ tysOK [] Tryz.func69 rfl (by kernel_rfl) rfl rfl rfl ?_
  intro C x
  refine x.pure rfl trivial rfl (cut_spec s ⟨#[45]⟩) ⟨rfl, rfl, trivial⟩ ?_
  generalize hd : (cutV s ⟨#[45]⟩).1 = d
  generalize hng : (cutV s ⟨#[45]⟩).2 = ng
  have hnil : d.data.toList = (⟨#[]⟩ : ByteArray).data.toList ↔ d.size = 0 := by
    rw [show d.size = d.data.toList.length from (Array.length_toList).symm, List.length_eq_zero_iff]
  have hsb : sb d (Int.toNat 0) = (bt d 0 : Int) := sb_bt d 0
  have hcond : (decide (d.data.toList = (⟨#[]⟩ : ByteArray).data.toList) || decide ((19 : Int) < d.size) || decide (sb d (Int.toNat 0) = 48) && (ng || decide ((1 : Int) < d.size))) = decide (d.size = 0 ∨ 19 < d.size ∨ (bt d 0 = 48 ∧ (ng = true ∨ 1 < d.size))) := by
    rw [Bool.eq_iff_iff]
    simp only [Bool.or_eq_true, Bool.and_eq_true, decide_eq_true_eq, hnil, hsb]
    cases ng <;> simp only [Bool.false_eq_true, false_or, true_or, and_true] <;> omega
  refine x.cond rfl ?_ (fun h => ?_) (fun h => ?_)
  · intro h
    simp only [Bool.or_eq_false_iff, decide_eq_false_iff_not] at h
    have : ¬ d.size = 0 := fun e => h.1 (hnil.2 e)
    omega
  · refine x.exit rfl trivial ?_
    refine ⟨.inr rfl, ?_, trivial, rfl⟩
    have : d.size = 0 ∨ 19 < d.size ∨ (bt d 0 = 48 ∧ (ng = true ∨ 1 < d.size)) := by
      rw [hcond] at h
      simpa only [decide_eq_true_eq] using h
    simp only [numV, hd, hng]
    rw [if_pos this]
    exact ⟨rfl, rfl, trivial⟩
  have hno : ¬ (d.size = 0 ∨ 19 < d.size ∨ (bt d 0 = 48 ∧ (ng = true ∨ 1 < d.size))) := by
    rw [hcond] at h
    simpa only [decide_eq_false_iff_not] using h
  have hsz : d.size ≤ 19 := by omega
  refine x.loop (α := WI d) (fun y => ⟨[(5, vb ng), (6, .d (.int .u64 (y.u : Int))), (35, .ptr 0 0)], [(0, .iter d y.p)], 1⟩) (fun y => d.size + 4 - y.p) ⟨d.size, 0, 0, by omega, rfl, by omega, by simp⟩ rfl trivial ?_ (fun y => ?_)
  · exact ⟨⟨rfl, rfl, ⟨rfl, rfl⟩, trivial⟩, ⟨⟨rfl, rfl⟩, trivial⟩, rfl⟩
  obtain ⟨n, p, u, fuel, same, hp, hu⟩ := y
  change Go C _ ⟨[(5, vb ng), (6, .d (.int .u64 (u : Int))), (35, .ptr 0 0)], [(0, .iter d p)], 1⟩ _
  refine x.next rfl trivial rfl rfl rfl (fun h => ?_) (fun h => ?_)
  · refine x.cond rfl trivial (fun _ => ?_) (fun h1 => by cases h1)
    refine x.pure rfl trivial rfl (digit_spec _) ⟨rfl, trivial⟩ ?_
    cases n with
    | zero => omega
    | succ n =>
      rw [dv, if_pos h] at same
      refine x.cond rfl trivial (fun h2 => ?_) (fun h2 => ?_)
      · have hnd : ¬ (48 ≤ bt d p ∧ bt d p ≤ 57) := fun hh => by
          rw [decode_ascii (by omega)] at h2
          simp at h2
          omega
        rw [if_neg hnd] at same
        refine x.exit rfl trivial ?_
        refine ⟨.inr rfl, ?_, trivial, rfl⟩
        simp only [numV, hd, hng]
        rw [if_neg hno, ← same]
        exact ⟨rfl, rfl, trivial⟩
      · have hdg : 48 ≤ bt d p ∧ bt d p ≤ 57 := by
          by_cases ha : bt d p < 128
          · rw [decode_ascii ha] at h2
            simp at h2
            omega
          · have := decode_high ha
            simp at h2
            omega
        rw [if_pos hdg] at same
        have hdec := decode_ascii (s := d) (p := p) (by omega)
        have hpow : 10 ^ (p + 1) ≤ 10 ^ 19 := Nat.pow_le_pow_right (by omega) (by omega)
        have hu' : 10 * u + (bt d p - 48) < 10 ^ (p + 1) := by rw [Nat.pow_succ]; omega
        refine x.back rfl trivial ?_
        refine ⟨⟨n, p + (Utf8.decode d p).2, 10 * u + (bt d p - 48), by rw [hdec]; omega, by rw [hdec]; exact same, by rw [hdec]; show p + 1 ≤ _; omega, by rw [hdec]; exact hu'⟩, by show d.size + 4 - (p + (Utf8.decode d p).2) < d.size + 4 - p; rw [hdec]; show d.size + 4 - (p + 1) < d.size + 4 - p; omega, ?_⟩
        refine ⟨⟨rfl, ?_, ⟨rfl, rfl⟩, trivial⟩, ⟨⟨rfl, rfl⟩, trivial⟩, rfl⟩
        show IntKind.u64.wrap (IntKind.u64.wrap (10 * (u : Int)) + IntKind.u64.wrap (IntKind.i32.wrap (((Utf8.decode d p).1 : Int) - 48))) = ((10 * u + (bt d p - 48) : Nat) : Int)
        rw [hdec, IntKind.wrap_u64, IntKind.wrap_u64, IntKind.wrap_u64, IntKind.wrap_i32]
        omega
  · refine x.cond rfl trivial (fun h1 => by cases h1) (fun _ => ?_)
    rw [dv_end h] at same
    have hpow : 10 ^ p ≤ 10 ^ 19 := Nat.pow_le_pow_right (by omega) (by omega)
    have hres : numV s = if ng = true ∧ u ≤ 9223372036854775808 then (-(u : Int), true) else if ng = false ∧ u < 9223372036854775808 then ((u : Int), true) else (0, false) := by
      simp only [numV, hd, hng]
      rw [if_neg hno, ← same]
    rw [hres]
    refine x.cond rfl trivial (fun h1 => ?_) (fun h1 => ?_)
    · simp only [Bool.and_eq_true, decide_eq_true_eq] at h1
      refine x.exit rfl trivial ?_
      refine ⟨.inr rfl, ?_, trivial, rfl⟩
      rw [if_pos ⟨h1.1, by omega⟩]
      refine ⟨?_, rfl, trivial⟩
      show IntKind.i64.wrap (IntKind.u64.wrap (0 - (u : Int))) = -(u : Int)
      rw [IntKind.wrap_i64, IntKind.wrap_u64]
      omega
    · rw [if_neg (by rintro ⟨rfl, hh⟩; simp at h1; omega)]
      refine x.cond rfl trivial (fun h2 => ?_) (fun h2 => ?_)
      · simp only [Bool.and_eq_true, Bool.not_eq_true', decide_eq_true_eq] at h2
        refine x.exit rfl trivial ?_
        refine ⟨.inr rfl, ?_, trivial, rfl⟩
        rw [if_pos ⟨h2.1, by omega⟩]
        refine ⟨?_, rfl, trivial⟩
        show IntKind.i64.wrap (u : Int) = (u : Int)
        rw [IntKind.wrap_i64]
        omega
      · refine x.exit rfl trivial ?_
        refine ⟨.inr rfl, ?_, trivial, rfl⟩
        rw [if_neg (by rintro ⟨rfl, hh⟩; simp at h2; omega)]
        exact ⟨rfl, rfl, trivial⟩
end Go.Proofs.YteeofakohenpoaaGreatDoor

/- A number out of its text: the reference's; both answer alike. -/
namespace Go.Proofs.YteeofakohenpoaaGreatDoor
open Go.Sx
set_option linter.unusedVariables false
set_option linter.unusedSimpArgs false
set_option maxRecDepth 100000

def frV (s : ByteArray) : Nat := if 0 < s.size ∧ bt s 0 = 45 then 1 else 0
theorem frV_le (s : ByteArray) : frV s ≤ 1 := by unfold frV; split <;> omega
theorem frV_size (s : ByteArray) : frV s ≤ s.size := by unfold frV; split <;> omega
def backN (s : ByteArray) (u : Nat) : Int := if frV s = 1 then IntKind.i64.wrap (IntKind.u64.wrap (0 - (u : Int))) else IntKind.i64.wrap (u : Int)
def refNumV (s : ByteArray) : Int × Bool :=
  if s.size = frV s ∨ frV s + 19 < s.size then (0, false)
  else match dv s s.size (frV s) 0 with
    | none => (0, false)
    | some u => if (showV (backN s u)).data.toList = s.data.toList then (backN s u, true) else (0, false)

theorem backN_in (s : ByteArray) (u : Nat) : inI64 (backN s u) := by
  unfold backN inI64
  split
  · rw [IntKind.wrap_i64]; omega
  · rw [IntKind.wrap_i64]; omega

structure XI (s : ByteArray) where
  n : Nat
  i : Nat
  u : Nat
  fuel : s.size ≤ i + n
  same : dv s n i u = dv s s.size (frV s) 0
  hi : frV s ≤ i ∧ i ≤ s.size
  hu : u < 10 ^ (i - frV s)

end Go.Proofs.YteeofakohenpoaaGreatDoor

/- Numbers: both answer alike; what is written is read. The laws. -/
namespace Go.Proofs.YteeofakohenpoaaGreatDoor
open Go.Sx
set_option linter.unusedVariables false
set_option linter.unusedSimpArgs false
set_option maxRecDepth 100000

def dvl : List UInt8 → Nat → Option Nat
  | [], u => some u
  | c :: r, u => if 48 ≤ c.toNat ∧ c.toNat ≤ 57 then dvl r (10 * u + (c.toNat - 48)) else none

theorem len_size (s : ByteArray) : s.data.toList.length = s.size := Array.length_toList
theorem bt_list (s : ByteArray) (i : Nat) (h : i < s.size) : ∃ c, s.data.toList[i]? = some c ∧ bt s i = c.toNat := by
  have h' : i < s.data.size := h
  refine ⟨s.data[i], by simp [h'], ?_⟩
  unfold bt
  cases s with
  | mk d => show d[i]!.toNat = _; rw [getElem!_pos d i h']

theorem dv_list (s : ByteArray) : ∀ (n i u : Nat), s.size ≤ i + n → dv s n i u = dvl (s.data.toList.drop i) u
  | 0, i, u, h => by
    rw [dv, List.drop_eq_nil_of_le (by rw [len_size]; omega)]
    rfl
  | n + 1, i, u, h => by
    rw [dv]
    by_cases hi : i < s.size
    · obtain ⟨c, hc, hb⟩ := bt_list s i hi
      have hl : i < s.data.toList.length := (List.getElem?_eq_some_iff.1 hc).1
      rw [if_pos hi, List.drop_eq_getElem_cons hl, (List.getElem?_eq_some_iff.1 hc).2, dvl, hb, dv_list s n (i + 1) _ (by omega)]
    · rw [if_neg hi, List.drop_eq_nil_of_le (by rw [len_size]; omega)]
      rfl

theorem dvl_app : ∀ (l : List UInt8) (c : UInt8) (u : Nat), dvl (l ++ [c]) u = (dvl l u).bind fun v => if 48 ≤ c.toNat ∧ c.toNat ≤ 57 then some (10 * v + (c.toNat - 48)) else none
  | [], c, u => rfl
  | x :: l, c, u => by
    rw [List.cons_append, dvl, dvl]
    split
    · exact dvl_app l c _
    · rfl

theorem dvl_lt : ∀ (l : List UInt8) (u v : Nat), dvl l u = some v → v < (u + 1) * 10 ^ l.length
  | [], u, v, h => by simp [dvl] at h; simp; omega
  | c :: l, u, v, h => by
    rw [dvl] at h
    split at h
    · have := dvl_lt l _ _ h
      rw [List.length_cons, Nat.pow_succ, Nat.mul_comm _ 10, ← Nat.mul_assoc]
      refine Nat.lt_of_lt_of_le this (Nat.mul_le_mul_right _ ?_)
      omega
    · cases h

theorem u8_dig (v : Nat) (h : v < 10) : (UInt8.ofNat (48 + v)).toNat = 48 + v := by
  rw [UInt8.toNat_ofNat']
  omega

theorem digs_head : ∀ (u : Nat), ∃ c r, digs u = c :: r ∧ 48 ≤ c.toNat ∧ c.toNat ≤ 57 ∧ (0 < u → c.toNat ≠ 48) := by
  intro u
  induction u using Nat.strongRecOn with
  | _ u ih =>
    by_cases h : u < 10
    · refine ⟨_, [], digs_lt h, ?_⟩
      rw [u8_dig u h]
      omega
    · obtain ⟨c, r, h1, h2, h3, h4⟩ := ih (u / 10) (by omega)
      exact ⟨c, r ++ [_], by rw [digs_ge h, h1]; rfl, h2, h3, fun _ => h4 (by omega)⟩

theorem dvl_digs : ∀ (u : Nat), dvl (digs u) 0 = some u := by
  intro u
  induction u using Nat.strongRecOn with
  | _ u ih =>
    by_cases h : u < 10
    · rw [digs_lt h, dvl, u8_dig u h, if_pos (by omega)]
      show some _ = some _
      congr 1
      omega
    · rw [digs_ge h, dvl_app, ih (u / 10) (by omega), u8_dig _ (by omega)]
      show (if _ then some _ else none) = _
      rw [if_pos (by omega)]
      congr 1
      omega

theorem u8_of (c : UInt8) : UInt8.ofNat c.toNat = c := by simp

theorem canon : ∀ (k : Nat) (l : List UInt8) (u : Nat), l.length = k → l ≠ [] → dvl l 0 = some u → (l.head? ≠ some 48 ∨ l.length = 1) → digs u = l := by
  intro k
  induction k with
  | zero => intro l u hk hl; exact absurd (List.length_eq_zero_iff.1 hk) hl
  | succ k ih =>
    intro l u hk hl h hh
    obtain ⟨l', c, rfl⟩ : ∃ l' c, l = l' ++ [c] := ⟨l.dropLast, l.getLast hl, (List.dropLast_concat_getLast hl).symm⟩
    rw [dvl_app] at h
    cases hv : dvl l' 0 with
    | none => rw [hv] at h; cases h
    | some v =>
      rw [hv] at h
      have h : (if 48 ≤ c.toNat ∧ c.toNat ≤ 57 then some (10 * v + (c.toNat - 48)) else none) = some u := h
      split at h
      · rename_i hc
        simp only [Option.some.injEq] at h
        by_cases hl' : l' = []
        · subst hl'
          simp only [dvl, Option.some.injEq] at hv
          subst hv
          rw [digs_lt (by omega), show 48 + u = c.toNat by omega, u8_of]
          rfl
        · have hne : l'.head? ≠ some 48 := by
            rcases hh with hh | hh
            · intro e
              apply hh
              cases l' with
              | nil => exact absurd rfl hl'
              | cons a b => simpa using e
            · exfalso
              simp at hh
              exact hl' hh
          have hd := ih l' v (by simp at hk; omega) hl' hv (.inl hne)
          have hv0 : v ≠ 0 := by
            rintro rfl
            rw [digs_lt (by omega)] at hd
            rw [← hd] at hne
            exact hne rfl
          rw [digs_ge (by omega), show u / 10 = v by omega, hd, show 48 + u % 10 = c.toNat by omega, u8_of]
      · cases h

theorem cut_neg {s : ByteArray} {r : List UInt8} (h : s.data.toList = 45 :: r) : cutV s ⟨#[45]⟩ = (ba r, true) := by
  have hs : s.size = r.length + 1 := by rw [show s.size = s.data.toList.length from (Array.length_toList).symm, h]; rfl
  have e1 : (s.extract 0 (ByteArray.size ⟨#[45]⟩)).data.toList = [45] := by
    rw [ByteArray.data_extract, Array.toList_extract, h]; rfl
  have e2 : s.extract (ByteArray.size ⟨#[45]⟩) s.size = ba r := by
    apply ByteArray.ext
    apply Array.toList_inj.1
    rw [ByteArray.data_extract, Array.toList_extract, h, hs]
    simp [ba, ByteArray.size, List.extract]
  rw [cutV, if_pos, e2]
  rw [e1]
  simp only [Bool.and_eq_true, decide_eq_true_eq]
  exact ⟨by rw [hs]; show (1 : Int) ≤ _; omega, trivial⟩
theorem cut_pos {s : ByteArray} (h : s.data.toList.head? ≠ some 45) : cutV s ⟨#[45]⟩ = (s, false) := by
  rw [cutV, if_neg]
  simp only [Bool.and_eq_true, decide_eq_true_eq]
  rintro ⟨h1, h2⟩
  apply h
  rw [ByteArray.data_extract, Array.toList_extract] at h2
  cases hl : s.data.toList with
  | nil => rw [hl] at h2; cases h2
  | cons a b =>
    rw [hl] at h2
    have : [a] = [45] := h2
    simp at this
    simp [this]

theorem bt0_head {s : ByteArray} {c : UInt8} {r : List UInt8} (h : s.data.toList = c :: r) : bt s 0 = c.toNat ∧ s.size = r.length + 1 := by
  have hs : s.size = r.length + 1 := by rw [show s.size = s.data.toList.length from (Array.length_toList).symm, h]; rfl
  obtain ⟨d, hd, hb⟩ := bt_list s 0 (by omega)
  rw [h] at hd
  simp at hd
  subst hd
  exact ⟨hb, hs⟩
theorem u8_eq {c : UInt8} {n : Nat} (hn : n < 256) : c.toNat = n ↔ c = UInt8.ofNat n := by
  constructor
  · rintro rfl; exact (u8_of c).symm
  · rintro rfl; rw [UInt8.toNat_ofNat']; omega

theorem numV_neg {s : ByteArray} {r : List UInt8} (h : s.data.toList = 45 :: r) :
    numV s = if r.length = 0 ∨ 19 < r.length ∨ r.head? = some 48 then (0, false) else match dvl r 0 with
      | none => (0, false)
      | some u => if u ≤ 9223372036854775808 then (-(u : Int), true) else (0, false) := by
  have hc := cut_neg h
  have hd : dv (ba r) r.length 0 0 = dvl r 0 := by rw [dv_list _ _ _ _ (by rw [ba_size]; omega)]; rfl
  unfold numV
  rw [hc]
  simp only [ba_size, hd]
  cases r with
  | nil => rw [if_pos (by simp), if_pos (by simp)]
  | cons c r =>
    have hb : bt (ba (c :: r)) 0 = c.toNat := (bt0_head (s := ba (c :: r)) rfl).1
    have h48 : c.toNat = 48 ↔ (c :: r).head? = some 48 := by rw [u8_eq (by omega)]; simp
    refine ite_cg (by rw [hb, h48]; simp) rfl ?_
    cases dvl (c :: r) 0 <;> simp

theorem numV_pos {s : ByteArray} {l : List UInt8} (hl : s.data.toList = l) (h : l.head? ≠ some 45) :
    numV s = if l.length = 0 ∨ 19 < l.length ∨ (l.head? = some 48 ∧ 1 < l.length) then (0, false) else match dvl l 0 with
      | none => (0, false)
      | some u => if u < 9223372036854775808 then ((u : Int), true) else (0, false) := by
  subst hl
  have hc := cut_pos h
  have hs : s.size = s.data.toList.length := (Array.length_toList).symm
  have hd : dv s s.size 0 0 = dvl s.data.toList 0 := by rw [dv_list _ _ _ _ (by omega)]; rfl
  unfold numV
  rw [hc]
  simp only [hd]
  rw [hs]
  cases hl : s.data.toList with
  | nil => rw [if_pos (by simp), if_pos (by simp)]
  | cons c r =>
    have hb := (bt0_head hl).1
    have h48 : c.toNat = 48 ↔ (c :: r).head? = some 48 := by rw [u8_eq (by omega)]; simp
    refine ite_cg (by rw [hb, h48]; simp) rfl ?_
    cases dvl (c :: r) 0 <;> simp

theorem showV_list (n : Int) : (showV n).data.toList = sgV n ++ digs n.natAbs := rfl

theorem num_eq (s : ByteArray) : numV s = refNumV s := by
  have hs : s.size = s.data.toList.length := (Array.length_toList).symm
  by_cases hneg : s.data.toList.head? = some 45
  · obtain ⟨r, hl⟩ : ∃ r, s.data.toList = 45 :: r := by
      cases h : s.data.toList with
      | nil => rw [h] at hneg; cases hneg
      | cons a b => rw [h] at hneg; simp at hneg; exact ⟨b, by rw [hneg]⟩
    have hb := bt0_head hl
    have hfr : frV s = 1 := by rw [frV, if_pos ⟨by omega, hb.1⟩]
    have hd : dv s s.size 1 0 = dvl r 0 := by rw [dv_list _ _ _ _ (by omega), hl]; rfl
    rw [numV_neg hl, refNumV, hfr, hd]
    by_cases h1 : r.length = 0 ∨ 19 < r.length
    · rw [if_pos (by omega), if_pos (by omega)]
    rw [if_neg (c := s.size = 1 ∨ 1 + 19 < s.size) (by omega)]
    have hr0 : r ≠ [] := fun e => h1 (.inl (by rw [e]; rfl))
    cases hv : dvl r 0 with
    | none => simp
    | some u =>
      simp only
      have hlt := dvl_lt r 0 u hv
      have hlt' : u < 10000000000000000000 := Nat.lt_of_lt_of_le hlt (by rw [Nat.zero_add, Nat.one_mul]; exact Nat.pow_le_pow_right (n := 10) (by omega) (show r.length ≤ 19 by omega))
      have hbk : backN s u = if u ≤ 9223372036854775808 then -(u : Int) else 18446744073709551616 - (u : Int) := by
        rw [backN, if_pos hfr, IntKind.wrap_i64, IntKind.wrap_u64]
        split <;> omega
      by_cases h48 : r.head? = some 48
      · rw [if_pos (by simp [h48])]
        rw [if_neg]
        rw [showV_list, hl]
        intro e
        obtain ⟨c, q, e1, e2, e3, e4⟩ := digs_head (backN s u).natAbs
        rw [sgV] at e
        split at e
        · rename_i hn
          rw [e1] at e
          simp at e
          rw [← e] at h48
          simp at h48
          rw [h48] at e4
          exact e4 (by omega) rfl
        · rw [e1] at e
          simp at e
          rw [e.1] at e2
          simp at e2
      · rw [if_neg (fun h => h.elim (fun h => h1 (.inl h)) fun h => h.elim (fun h => h1 (.inr h)) h48)]
        have hcan := canon r.length r u rfl hr0 hv (.inl h48)
        have hu0 : u ≠ 0 := by
          rintro rfl
          rw [digs_lt (by omega)] at hcan
          rw [← hcan] at h48
          exact h48 rfl
        by_cases hu : u ≤ 9223372036854775808
        · rw [if_pos hu] at hbk
          rw [if_pos hu, if_pos, hbk]
          rw [hbk, showV_list, hl, sgV, if_pos (by omega), show (-(u : Int)).natAbs = u by omega, hcan]
          rfl
        · rw [if_neg hu] at hbk
          rw [if_neg hu, if_neg]
          rw [hbk, showV_list, hl, sgV, if_neg (by omega)]
          intro e
          obtain ⟨c, q, e1, e2, e3, e4⟩ := digs_head (18446744073709551616 - (u : Int)).natAbs
          rw [e1] at e
          simp at e
          rw [e.1] at e2
          simp at e2
  · have hfr : frV s = 0 := by
      rw [frV, if_neg]
      rintro ⟨h1, h2⟩
      cases hl : s.data.toList with
      | nil => rw [hl] at hs; simp only [List.length_nil] at hs; omega
      | cons c r =>
        have hb := (bt0_head hl).1
        rw [hl] at hneg
        apply hneg
        rw [hb] at h2
        simp [(u8_eq (c := c) (n := 45) (by omega)).1 h2]
    have hd : dv s s.size 0 0 = dvl s.data.toList 0 := by rw [dv_list _ _ _ _ (by omega)]; rfl
    rw [numV_pos rfl hneg, refNumV, hfr, hd]
    generalize hl : s.data.toList = l at *
    by_cases h1 : l.length = 0 ∨ 19 < l.length
    · rw [if_pos (by omega), if_pos (by omega)]
    rw [if_neg (c := s.size = 0 ∨ 0 + 19 < s.size) (by omega)]
    have hr0 : l ≠ [] := fun e => h1 (.inl (by rw [e]; rfl))
    cases hv : dvl l 0 with
    | none => simp
    | some u =>
      simp only
      have hlt := dvl_lt l 0 u hv
      have hlt' : u < 10000000000000000000 := Nat.lt_of_lt_of_le hlt (by rw [Nat.zero_add, Nat.one_mul]; exact Nat.pow_le_pow_right (n := 10) (by omega) (show l.length ≤ 19 by omega))
      have hbk : backN s u = if u < 9223372036854775808 then (u : Int) else (u : Int) - 18446744073709551616 := by
        rw [backN, if_neg (by omega), IntKind.wrap_i64]
        split <;> omega
      by_cases hu : u < 9223372036854775808
      · rw [if_pos hu] at hbk
        rw [if_pos hu]
        by_cases h48 : l.head? = some 48 ∧ 1 < l.length
        · rw [if_pos (by simp [h48]), if_neg]
          rw [hbk, showV_list, sgV, if_neg (by omega), show ((u : Int)).natAbs = u by omega]
          intro e
          simp only [List.nil_append] at e
          by_cases hu0 : u = 0
          · subst hu0
            rw [digs_lt (by omega)] at e
            rw [← e] at h48
            simp at h48
          · obtain ⟨c, q, e1, e2, e3, e4⟩ := digs_head u
            rw [← e, e1] at h48
            simp at h48
            rw [h48.1] at e4
            exact e4 (by omega) rfl
        · rw [if_neg (fun h => h.elim (fun h => h1 (.inl h)) fun h => h.elim (fun h => h1 (.inr h)) h48)]
          have hcan := canon l.length l u rfl hr0 hv (by
            by_cases e : l.head? = some 48
            · exact .inr (by have : ¬ 1 < l.length := fun h => h48 ⟨e, h⟩
                             omega)
            · exact .inl e)
          rw [if_pos, hbk]
          rw [hbk, showV_list, sgV, if_neg (by omega), show ((u : Int)).natAbs = u by omega, hcan]
          rfl
      · rw [if_neg hu] at hbk
        rw [if_neg hu, if_neg (c := (showV (backN s u)).data.toList = l)]
        · split <;> rfl
        · rw [hbk, showV_list, sgV, if_pos (by omega)]
          intro e
          rw [← e] at hneg
          exact hneg rfl

theorem num_back (n : Int) (hn : inI64 n) : numV (showV n) = (n, true) := by
  unfold inI64 at hn
  obtain ⟨c, q, e1, e2, e3, e4⟩ := digs_head n.natAbs
  have hlen := digs_len 18 n.natAbs (by show n.natAbs < 10000000000000000000; omega)
  by_cases h0 : n < 0
  · have hl : (showV n).data.toList = 45 :: digs n.natAbs := by rw [showV_list, sgV, if_pos h0]; rfl
    have h48 : (digs n.natAbs).head? ≠ some 48 := by
      rw [e1]
      intro e
      simp at e
      exact e4 (by omega) (by rw [e]; rfl)
    rw [numV_neg hl, if_neg, dvl_digs]
    · simp only
      rw [if_pos (by omega)]
      congr 1
      omega
    · rintro (h | h | h)
      · rw [e1] at h; simp at h
      · omega
      · exact h48 h
  · have hl : (showV n).data.toList = digs n.natAbs := by rw [showV_list, sgV, if_neg h0]; rfl
    have h45 : (digs n.natAbs).head? ≠ some 45 := by
      rw [e1]
      intro e
      simp at e
      rw [e] at e2
      simp at e2
    rw [numV_pos hl h45, if_neg, dvl_digs]
    · simp only
      rw [if_pos (by omega)]
      congr 1
      omega
    · rintro (h | h | h)
      · rw [e1] at h; simp at h
      · omega
      · by_cases hz : n.natAbs = 0
        · rw [hz, digs_lt (by omega)] at h
          simp at h
        · rw [e1] at h
          simp at h
          exact e4 (by omega) (by rw [h.1]; rfl)

theorem num_one : numV ⟨#[49]⟩ = (1, true) := by
  have : (⟨#[49]⟩ : ByteArray) = showV 1 := by
    unfold showV sgV
    rw [if_neg (by omega), show Int.natAbs 1 = 1 from rfl, digs_lt (by omega)]
    decide +kernel
  rw [this]
  exact num_back 1 (by unfold inI64; omega)
end Go.Proofs.YteeofakohenpoaaGreatDoor

/- The first token: the program's, and the answer's. -/
namespace Go.Proofs.YteeofakohenpoaaGreatDoor
open Go.Sx
set_option linter.unusedVariables false
set_option linter.unusedSimpArgs false
set_option maxRecDepth 100000

structure Tok where
  k : Int
  f : Int
  t : Int
deriving DecidableEq
abbrev dTok (t : Tok) : List D := [.int .u8 t.k, .int .i64 t.f, .int .i64 t.t]
abbrev vTok (t : Tok) : List V := [.d (.int .u8 t.k), vi t.f, vi t.t]
abbrev tokV (t : Tok) : V := .agg (vTok t)
def tok0 : Tok := ⟨0, 0, 0⟩
def nameB (b : ByteArray) : Bool := nameW b b.size 0 0
def kindOf (b : ByteArray) : Int := if wordB b then 2 else if nameB b then 1 else if (numV b).2 then 3 else 0
def pieceEnd (s : ByteArray) (p : Nat) : Nat := if bt s p = 45 ∧ digAt s (p + 1) = true then rowV s (p + 1) else rowV s p
def oneN (s : ByteArray) (a : Nat) : Tok × Int × Int :=
  if skV s false a = s.size then (tok0, (s.size : Int), 4)
  else if signB (bt s (skV s false a)) then (⟨4, skV s false a, skV s false a + 1⟩, 0, 0)
  else if kindOf (s.extract (skV s false a) (pieceEnd s (skV s false a))) = 0 then (tok0, (skV s false a : Int), 6)
  else (⟨kindOf (s.extract (skV s false a) (pieceEnd s (skV s false a))), skV s false a, pieceEnd s (skV s false a)⟩, 0, 0)
def oneV (s : ByteArray) (a : Int) : Tok × Int × Int := if a < 0 ∨ (s.size : Int) < a then (tok0, 0, 1) else oneN s a.toNat
theorem oneN_none {s : ByteArray} {a p : Nat} (hp : skV s false a = p) (h : p = s.size) : oneN s a = (tok0, (s.size : Int), 4) := by
  unfold oneN; rw [hp, if_pos h]
theorem oneN_sign {s : ByteArray} {a p : Nat} (hp : skV s false a = p) (h : p ≠ s.size) (h2 : signB (bt s p) = true) : oneN s a = (⟨4, p, p + 1⟩, 0, 0) := by
  unfold oneN; rw [hp, if_neg h, if_pos h2]
theorem oneN_bad {s : ByteArray} {a p : Nat} (hp : skV s false a = p) (h : p ≠ s.size) (h2 : signB (bt s p) = false) (h3 : kindOf (s.extract p (pieceEnd s p)) = 0) : oneN s a = (tok0, (p : Int), 6) := by
  unfold oneN; rw [hp, if_neg h, if_neg (by rw [h2]; simp), if_pos h3]
theorem oneN_ok {s : ByteArray} {a p : Nat} (hp : skV s false a = p) (h : p ≠ s.size) (h2 : signB (bt s p) = false) (h3 : kindOf (s.extract p (pieceEnd s p)) ≠ 0) : oneN s a = (⟨kindOf (s.extract p (pieceEnd s p)), p, pieceEnd s p⟩, 0, 0) := by
  unfold oneN; rw [hp, if_neg h, if_neg (by rw [h2]; simp), if_neg h3]
theorem pieceEnd_le {s : ByteArray} {p : Nat} (hp : p < s.size) : p ≤ pieceEnd s p ∧ pieceEnd s p ≤ s.size := by
  unfold pieceEnd
  split
  · have := rowV_le s s.size (p + 1) (by omega) (by omega); omega
  · exact rowV_le s s.size p (by omega) (by omega)
theorem kind_word {b : ByteArray} (h : wordB b = true) : kindOf b = 2 := by unfold kindOf; rw [if_pos h]
theorem kind_name {b : ByteArray} (h : wordB b = false) (h2 : nameB b = true) : kindOf b = 1 := by unfold kindOf; rw [if_neg (by rw [h]; simp), if_pos h2]
theorem kind_num {b : ByteArray} (h : wordB b = false) (h2 : nameB b = false) (h3 : (numV b).2 = true) : kindOf b = 3 := by unfold kindOf; rw [if_neg (by rw [h]; simp), if_neg (by rw [h2]; simp), if_pos h3]
theorem kind_none {b : ByteArray} (h : wordB b = false) (h2 : nameB b = false) (h3 : (numV b).2 = false) : kindOf b = 0 := by unfold kindOf; rw [if_neg (by rw [h]; simp), if_neg (by rw [h2]; simp), if_neg (by rw [h3]; simp)]
theorem sign_idx (n : Nat) (hn : n < 256) : decide (0 ≤ Lib.indexByte [40, 41, 123, 125, 91, 93, 44, 58, 61] n.toUInt8) = signB n := by
  have : ∀ n, n < 256 → decide (0 ≤ Lib.indexByte [40, 41, 123, 125, 91, 93, 44, 58, 61] n.toUInt8) = signB n := by decide +kernel
  exact this n hn
theorem ex_size (s : ByteArray) (p q : Nat) : (s.extract p q).size ≤ s.size := by
  rw [ByteArray.size_extract]; omega

theorem one_spec (s : ByteArray) (a : Int) (hs : s.size ≤ 4611686018427387904) : Pure PG 64 [vs s, vi a] (.tup [tokV (oneV s a).1, vi (oneV s a).2.1, vi (oneV s a).2.2]) [] := by
  refine Proc.mk (cfg 104) tysOK [] Tryz.func64 rfl (by kernel_rfl) rfl rfl rfl ?_
  intro C x
  refine x.cond rfl trivial (fun h => ?_) (fun h => ?_)
  · have h : (decide (a < 0) || decide ((s.size : Int) < a)) = true := h
    rw [Bool.or_eq_true, decide_eq_true_eq, decide_eq_true_eq] at h
    rw [oneV, if_pos h]
    refine x.exit rfl trivial ?_
    exact ⟨.inr rfl, ⟨rfl, rfl, rfl, trivial⟩, trivial, rfl⟩
  have h : (decide (a < 0) || decide ((s.size : Int) < a)) = false := h
  rw [Bool.or_eq_false_iff, decide_eq_false_iff_not, decide_eq_false_iff_not] at h
  rw [oneV, if_neg (by omega)]
  obtain ⟨a, rfl⟩ : ∃ n : Nat, a = n := ⟨a.toNat, by omega⟩
  rw [Int.toNat_natCast]
  refine x.pure rfl trivial rfl (skip_spec s a (by omega) (by omega)) ⟨rfl, rfl, trivial⟩ ?_
  obtain ⟨hp1, hp2, hp3⟩ := skV_le s s.size false a (by omega) (by omega)
  obtain ⟨p, hp⟩ : ∃ p, skV s false a = p := ⟨_, rfl⟩
  rw [hp] at hp1 hp2 hp3 ⊢
  refine x.cond rfl trivial (fun h2 => ?_) (fun h2 => ?_)
  · have h2 : p = s.size := by have h2 : (p : Int) = s.size := of_decide_eq_true h2; omega
    rw [oneN_none hp h2]
    refine x.exit rfl trivial ?_
    exact ⟨.inr rfl, ⟨rfl, by show (p : Int) = s.size; omega, rfl, trivial⟩, trivial, rfl⟩
  have h2 : p ≠ s.size := by have h2 : ¬ (p : Int) = s.size := of_decide_eq_false h2; omega
  have hpl : p < s.size := by omega
  have ec : sb s ((p : Int)).toNat = (bt s p : Int) := sb_bt s p
  have hbl := bt_lt s p
  refine x.pure rfl ?_ rfl (indexByte_spec ⟨#[40, 41, 123, 125, 91, 93, 44, 58, 61]⟩ (bt s p : Int)) ⟨rfl, ?_, trivial⟩ ?_
  · simp only [AllP]; omega
  · exact ec
  rw [Int.toNat_natCast]
  refine x.cond rfl trivial (fun h3 => ?_) (fun h3 => ?_)
  · have h3 : signB (bt s p) = true := (sign_idx _ hbl).symm.trans h3
    rw [oneN_sign hp h2 h3]
    refine x.exit rfl ?_ ?_
    · simp only [AllP, inI64]; omega
    exact ⟨.inr rfl, ⟨rfl, rfl, rfl, trivial⟩, trivial, rfl⟩
  have h3 : signB (bt s p) = false := (sign_idx _ hbl).symm.trans h3
  refine x.pure rfl ?_ rfl (row_spec (s.extract p s.size) (by have := ex_size s p s.size; omega)) ⟨rfl, trivial⟩ ?_
  · simp only [AllP]; omega
  have er := rowV_extract hp2 s.size 0 (by omega)
  rw [Nat.add_zero] at er
  obtain ⟨e1, e2⟩ := pieceEnd_le hpl
  have hrl := rowV_le s s.size p (by omega) hp2
  refine x.ite (α := Unit) (fun _ => ⟨[(0, vs s), (1, vi (p : Int)), (4, .ptr 0 0), (7, vi ((pieceEnd s p - p : Nat) : Int))], [(0, .box (vTok tok0))], 1⟩) rfl ?_ (fun h4 => ?_) (fun h4 => ?_) (fun _ => ?_)
  · simp only [AllP, inI64, Bool.and_eq_true, decide_eq_true_eq]
    exact ⟨by omega, fun _ => by omega, fun _ => by omega, fun _ => by omega, fun _ => by omega, fun _ => by omega⟩
  · have h4 : (((decide (sb s ((p : Int)).toNat = 45) && decide ((p : Int) + 1 < (s.size : Int))) && decide (48 ≤ sb s ((p : Int) + 1).toNat)) && decide (sb s ((p : Int) + 1).toNat ≤ 57)) = true := h4
    have ep1 : ((p : Int) + 1).toNat = p + 1 := by omega
    rw [ec, ep1, sb_bt] at h4
    simp only [Bool.and_eq_true, decide_eq_true_eq] at h4
    have e45 : bt s p = 45 := by omega
    have ed : digAt s (p + 1) = true := by
      unfold digAt
      simp only [Bool.and_eq_true, decide_eq_true_eq]
      omega
    have epe : pieceEnd s p = rowV s (p + 1) := by unfold pieceEnd; rw [if_pos ⟨e45, ed⟩]
    refine x.pure rfl ?_ rfl (row_spec (s.extract (p + 1) s.size) (by have := ex_size s (p + 1) s.size; omega)) ⟨?_, trivial⟩ ?_
    · simp only [AllP, inI64]; omega
    · show s.extract ((p : Int) + 1).toNat s.size = s.extract (p + 1) s.size
      rw [ep1]
    have er1 := rowV_extract (s := s) (p := p + 1) (by omega) s.size 0 (by omega)
    rw [Nat.add_zero] at er1
    refine x.back rfl ?_ ⟨(), ⟨rfl, rfl, ⟨rfl, rfl⟩, ?_, trivial⟩, ⟨⟨rfl, rfl, rfl, trivial⟩, trivial⟩, rfl⟩
    · simp only [AllP, inI64]; omega
    · show 1 + (rowV (s.extract (p + 1) s.size) 0 : Int) = ((pieceEnd s p - p : Nat) : Int)
      omega
  · have h4 : (((decide (sb s ((p : Int)).toNat = 45) && decide ((p : Int) + 1 < (s.size : Int))) && decide (48 ≤ sb s ((p : Int) + 1).toNat)) && decide (sb s ((p : Int) + 1).toNat ≤ 57)) = false := h4
    have ep1 : ((p : Int) + 1).toNat = p + 1 := by omega
    have epe : pieceEnd s p = rowV s p := by
      unfold pieceEnd
      rw [if_neg]
      rintro ⟨e45, ed⟩
      unfold digAt at ed
      simp only [Bool.and_eq_true, decide_eq_true_eq] at ed
      rw [ec, ep1, sb_bt] at h4
      rw [decide_eq_true (by omega), decide_eq_true (by omega), decide_eq_true (by omega), decide_eq_true (by omega)] at h4
      cases h4
    refine x.back rfl trivial ⟨(), ⟨rfl, rfl, ⟨rfl, rfl⟩, ?_, trivial⟩, ⟨⟨rfl, rfl, rfl, trivial⟩, trivial⟩, rfl⟩
    show (rowV (s.extract p s.size) 0 : Int) = ((pieceEnd s p - p : Nat) : Int)
    omega
  obtain ⟨q, hq⟩ : ∃ q, pieceEnd s p = q := ⟨_, rfl⟩
  rw [hq] at e1 e2 ⊢
  have eqq : (p : Int) + ((q - p : Nat) : Int) = (q : Int) := by omega
  obtain ⟨b, hb⟩ : ∃ b, s.extract p q = b := ⟨_, rfl⟩
  have hbs : b.size ≤ s.size := by rw [← hb]; exact ex_size s p q
  refine x.pure rfl ?_ rfl (number_spec b) ⟨?_, trivial⟩ ?_
  · simp only [AllP, inI64, eqq]; omega
  · show s.extract ((p : Int)).toNat ((p : Int) + ((q - p : Nat) : Int)).toNat = b
    rw [eqq, Int.toNat_natCast, Int.toNat_natCast, hb]
  have ebv : s.extract ((p : Int)).toNat ((p : Int) + ((q - p : Nat) : Int)).toNat = b := by rw [eqq, Int.toNat_natCast, Int.toNat_natCast, hb]
  refine x.le (s' := ⟨[(1, vi (p : Int)), (4, .ptr 0 0), (8, .ptr 1 0), (9, vs b), (87, .tup [vi (numV b).1, vb (numV b).2])], [(0, .box (vTok tok0)), (1, .box (vTok ⟨0, p, q⟩))], 2⟩) ?_ ?_
  · exact ⟨⟨rfl, ⟨rfl, rfl⟩, ⟨rfl, rfl⟩, ebv, ⟨rfl, rfl, trivial⟩, trivial⟩, ⟨⟨rfl, rfl, rfl, trivial⟩, ⟨rfl, rfl, eqq, trivial⟩, trivial⟩, rfl⟩
  refine x.pure rfl trivial rfl (word_spec b) ⟨rfl, trivial⟩ ?_
  have fin : ∀ k : Int, kindOf b = k → k ≠ 0 → oneN s a = (⟨k, p, q⟩, 0, 0) := fun k hk h0 => by
    rw [oneN_ok hp h2 h3 (by rw [hq, hb, hk]; exact h0), hq, hb, hk]
  refine x.cond rfl trivial (fun h5 => ?_) (fun h5 => ?_)
  · rw [fin 2 (kind_word h5) (by decide)]
    refine x.exit rfl trivial ?_
    exact ⟨.inr rfl, ⟨rfl, rfl, rfl, trivial⟩, trivial, rfl⟩
  refine x.pure rfl trivial rfl (name_spec b (by omega)) ⟨rfl, trivial⟩ ?_
  refine x.cond rfl trivial (fun h6 => ?_) (fun h6 => ?_)
  · rw [fin 1 (kind_name h5 h6) (by decide)]
    refine x.exit rfl trivial ?_
    exact ⟨.inr rfl, ⟨rfl, rfl, rfl, trivial⟩, trivial, rfl⟩
  refine x.cond rfl trivial (fun h7 => ?_) (fun h7 => ?_)
  · rw [fin 3 (kind_num h5 h6 h7) (by decide)]
    refine x.exit rfl trivial ?_
    exact ⟨.inr rfl, ⟨rfl, rfl, rfl, trivial⟩, trivial, rfl⟩
  · rw [oneN_bad hp h2 h3 (by rw [hq, hb]; exact kind_none h5 h6 h7)]
    refine x.exit rfl trivial ?_
    exact ⟨.inr rfl, ⟨rfl, rfl, rfl, trivial⟩, trivial, rfl⟩

end Go.Proofs.YteeofakohenpoaaGreatDoor

/- All tokens: the program's, and the answer's; the example. -/
namespace Go.Proofs.YteeofakohenpoaaGreatDoor
open Go.Sx
set_option linter.unusedVariables false
set_option linter.unusedSimpArgs false
set_option maxRecDepth 100000

def dToks (l : List Tok) : D := .sl 3 l.length fun i => dTok (l.getD i tok0)
abbrev tv (l : List Tok) : V := .d (dToks l)
abbrev tokC (l : List Tok) : Ch := .vec 106 3 l.length fun i => dTok (l.getD i tok0)
theorem app_tok (l : List Tok) (t : Tok) (j : Nat) (hj : j < l.length + 1) : app l.length (fun i => dTok (l.getD i tok0)) (fun _ => dTok t) j = dTok ((l ++ [t]).getD j tok0) := by
  unfold app
  by_cases h : j < l.length
  · show zipIte (j < l.length) (dTok (l.getD j tok0)) (dTok t) = _
    rw [List.getD_eq_getElem?_getD, List.getD_eq_getElem?_getD, List.getElem?_append_left h]
    simp only [dTok, zipIte, iteD_pos h]
    rw [if_pos h]
  · show zipIte (j < l.length) (dTok (l.getD j tok0)) (dTok t) = _
    have e : j = l.length := by omega
    rw [List.getD_eq_getElem?_getD (l := l ++ [t]), List.getElem?_append_right (by omega), e, Nat.sub_self]
    simp only [dTok, zipIte, iteD_neg (Nat.lt_irrefl _)]
    rw [if_neg (Nat.lt_irrefl _)]
    rfl
theorem kind_empty {b : ByteArray} (h : b.size = 0) : kindOf b = 0 := by
  have e : b.data.toList = [] := List.eq_nil_of_length_eq_zero (by rw [← size_list]; exact h)
  rw [ba_eq b, e]
  decide +kernel
theorem kind_piece {s : ByteArray} {p q : Nat} (h : kindOf (s.extract p q) ≠ 0) : p < q := by
  rcases Nat.lt_or_ge p q with h1 | h1
  · exact h1
  · exact absurd (kind_empty (by rw [ByteArray.size_extract]; omega)) h
theorem one_facts {s : ByteArray} {a : Nat} (ha : a ≤ s.size) : ((oneN s a).2.2 = 0 ∧ (a : Int) ≤ (oneN s a).1.f ∧ (oneN s a).1.f < (oneN s a).1.t ∧ (oneN s a).1.t ≤ s.size) ∨ (oneN s a).2.2 = 4 ∨ (oneN s a).2.2 = 6 := by
  obtain ⟨h1, h2, h3⟩ := skV_le s s.size false a (by omega) ha
  obtain ⟨p, hp⟩ : ∃ p, skV s false a = p := ⟨_, rfl⟩
  rw [hp] at h1 h2
  by_cases e : p = s.size
  · rw [oneN_none hp e]; exact .inr (.inl rfl)
  · cases hs : signB (bt s p) with
    | true =>
      rw [oneN_sign hp e hs]
      exact .inl ⟨rfl, by show (a : Int) ≤ p; omega, by show (p : Int) < p + 1; omega, by show (p : Int) + 1 ≤ s.size; omega⟩
    | false =>
      by_cases hk : kindOf (s.extract p (pieceEnd s p)) = 0
      · rw [oneN_bad hp e hs hk]; exact .inr (.inr rfl)
      · rw [oneN_ok hp e hs hk]
        have h4 := kind_piece hk
        have h5 := pieceEnd_le (s := s) (p := p) (by omega)
        exact .inl ⟨rfl, by show (a : Int) ≤ p; omega, by show (p : Int) < pieceEnd s p; omega, by show (pieceEnd s p : Int) ≤ s.size; omega⟩
def toksF (s : ByteArray) : Nat → Nat → List Tok → List Tok × Int × Int
  | 0, _, _ => ([], 0, 0)
  | n + 1, a, out => if (oneN s a).2.2 = 4 then (out, 0, 0) else if (oneN s a).2.2 = 0 then toksF s n (oneN s a).1.t.toNat (out ++ [(oneN s a).1]) else ([], (oneN s a).2.1, (oneN s a).2.2)
def allV (s : ByteArray) : List Tok × Int × Int :=
  if 65536 < s.size then ([], 0, 2)
  else if 0 ≤ badV s s.size 0 then ([], badV s s.size 0, 5)
  else toksF s (s.size + 1) 0 []
structure TI3 (s : ByteArray) where
  n : Nat
  a : Nat
  out : List Tok
  ha : a ≤ s.size
  fuel : s.size + 1 ≤ a + n
  len : out.length ≤ a
  same : toksF s n a out = toksF s (s.size + 1) 0 []
theorem clipT_spec (l : List Tok) (hl : l.length ≤ big) : Pure PG 65 [tv l] (tv l) [] := by
  refine Proc.mk (cfg 9) tysOK [] Tryz.func65 rfl (by kernel_rfl) rfl rfl rfl ?_
  intro C x
  unfold big at hl
  refine x.exit rfl ?_ ?_
  · simp only [AllP]; omega
  · exact ⟨.inr rfl, veq_d rfl, trivial, rfl⟩

theorem all_spec (s : ByteArray) (hs : s.size ≤ 4611686018427387904) : Pure PG 42 [vs s] (.tup [tv (allV s).1, vi (allV s).2.1, vi (allV s).2.2]) [] := by
  refine Proc.mk (cfg 40) tysOK [] Tryz.func42 rfl (by kernel_rfl) rfl rfl rfl ?_
  intro C x
  refine x.cond rfl trivial (fun h => ?_) (fun h => ?_)
  · have h : (65536 : Int) < s.size := of_decide_eq_true h
    rw [allV, if_pos (by omega)]
    refine x.exit rfl trivial ?_
    exact ⟨.inr rfl, ⟨rfl, rfl, rfl, trivial⟩, trivial, rfl⟩
  have h : ¬ (65536 : Int) < s.size := of_decide_eq_false h
  rw [allV, if_neg (by omega)]
  refine x.pure rfl trivial rfl (badW_spec s (by omega)) ⟨rfl, trivial⟩ ?_
  refine x.cond rfl trivial (fun h2 => ?_) (fun h2 => ?_)
  · have h2 : 0 ≤ badV s s.size 0 := of_decide_eq_true h2
    rw [if_pos h2]
    refine x.exit rfl trivial ?_
    exact ⟨.inr rfl, ⟨rfl, rfl, rfl, trivial⟩, trivial, rfl⟩
  have h2 : ¬ 0 ≤ badV s s.size 0 := of_decide_eq_false h2
  rw [if_neg h2]
  refine x.toLoop rfl trivial ?_
  refine Go.own 6 106 3 (fun j => dTok (([] : List Tok).getD j tok0)) rfl ?_
  refine x.loop (α := TI3 s) (fun y => ⟨[(0, vs s), (6, .own 0), (7, vi (y.a : Int))], [(0, tokC y.out)], 1⟩) (fun y => y.n) ⟨s.size + 1, 0, [], by omega, by omega, by simp, rfl⟩ rfl trivial ⟨⟨rfl, rfl, rfl, trivial⟩, ⟨⟨rfl, rfl, rfl, fun j hj => absurd hj (Nat.not_lt_zero _)⟩, trivial⟩, rfl⟩ (fun y => ?_)
  obtain ⟨n, a, out, hal, fuel, len, same⟩ := y
  change Go C _ ⟨[(0, vs s), (6, .own 0), (7, vi (a : Int))], [(0, tokC out)], 1⟩ _
  obtain ⟨n, rfl⟩ : ∃ m, n = m + 1 := ⟨n - 1, by omega⟩
  refine x.pure rfl trivial rfl (one_spec s (a : Int) hs) ⟨rfl, rfl, trivial⟩ ?_
  rw [show oneV s (a : Int) = oneN s a by rw [oneV, if_neg (by omega), Int.toNat_natCast]]
  have hf := one_facts hal
  rw [toksF] at same
  obtain ⟨⟨t, place, e⟩, hr⟩ : ∃ r, oneN s a = r := ⟨_, rfl⟩
  rw [hr] at hf same ⊢
  dsimp only at hf same
  refine x.cond rfl trivial (fun h3 => ?_) (fun h3 => ?_)
  · have h3 : e = 4 := of_decide_eq_true h3
    rw [if_pos h3] at same
    rw [← same]
    refine Sx.Go.freeze 0 ?_
    refine x.pure rfl trivial rfl (clipT_spec out (by unfold big; omega)) ⟨veq_d rfl, trivial⟩ ?_
    refine x.exit rfl trivial ?_
    exact ⟨.inr rfl, ⟨veq0_d rfl, rfl, rfl, trivial⟩, trivial, rfl⟩
  have h3 : e ≠ 4 := of_decide_eq_false h3
  rw [if_neg h3] at same
  refine x.cond rfl trivial (fun h4 => ?_) (fun h4 => ?_)
  · have h4 : (!decide (e = 0)) = true := h4
    have h4 : e ≠ 0 := by simpa using h4
    rw [if_neg h4] at same
    rw [← same]
    refine x.exit rfl trivial ?_
    exact ⟨.inr rfl, ⟨rfl, rfl, rfl, trivial⟩, trivial, rfl⟩
  have h4 : (!decide (e = 0)) = false := h4
  have h4 : e = 0 := by simpa using h4
  rw [if_pos h4] at same
  have hb : (a : Int) ≤ t.f ∧ t.f < t.t ∧ t.t ≤ s.size := by
    rcases hf with h | h | h
    · exact h.2
    · omega
    · omega
  refine x.back rfl ?_ ⟨⟨n, t.t.toNat, out ++ [t], by omega, by omega, by rw [List.length_append]; simp only [List.length_cons, List.length_nil]; omega, same⟩, by show n < n + 1; omega, ⟨rfl, rfl, ?_, trivial⟩, ⟨⟨rfl, rfl, ?_, fun j hj => app_tok out t j hj⟩, trivial⟩, rfl⟩
  · simp only [AllP, big]; omega
  · show t.t = ((t.t.toNat : Nat) : Int); omega
  · show out.length + 1 = (out ++ [t]).length; simp


theorem toks_len (s : ByteArray) : ∀ (n a : Nat) (out : List Tok), a ≤ s.size → out.length ≤ a → (toksF s n a out).1.length ≤ s.size
  | 0, a, out, _, _ => by simp [toksF]
  | n + 1, a, out, ha, hl => by
    rw [toksF]
    split
    · show out.length ≤ s.size; omega
    · split
      · rename_i h0
        have hf := one_facts ha
        have hb : (a : Int) ≤ (oneN s a).1.f ∧ (oneN s a).1.f < (oneN s a).1.t ∧ (oneN s a).1.t ≤ s.size := by
          rcases hf with h | h | h
          · exact h.2
          · omega
          · omega
        exact toks_len s n _ _ (by omega) (by rw [List.length_append]; simp only [List.length_cons, List.length_nil]; omega)
      · simp
theorem all_len (s : ByteArray) : (allV s).1.length ≤ s.size := by
  unfold allV
  split
  · simp
  · split
    · simp
    · exact toks_len s _ 0 [] (by omega) (by simp)
end Go.Proofs.YteeofakohenpoaaGreatDoor

/- Tokens one by one, as the program reads them: where it stands, what stands there, and what gives up. -/
namespace Go.Proofs.YteeofakohenpoaaGreatDoor
open Go.Sx
set_option linter.unusedVariables false
set_option linter.unusedSimpArgs false
set_option maxRecDepth 100000

/-- The tokens lie in the text. -/
def Lies (s : ByteArray) (l : List Tok) : Prop := (∀ t, t ∈ l → 0 ≤ t.f ∧ t.f < t.t ∧ t.t ≤ s.size) ∧ l.length ≤ 140737488355328 ∧ s.size ≤ 140737488355328
abbrev pC (s : ByteArray) (l : List Tok) (n c : Nat) : Ch := .box [vs s, tv l, vi (n : Int), vi (c : Int)]
def atV (s : ByteArray) (l : List Tok) (n : Nat) : Int := if n < l.length then (l.getD n tok0).f else (s.size : Int)
def txV (s : ByteArray) (l : List Tok) (k : Nat) : ByteArray := if k < l.length then s.extract (l.getD k tok0).f.toNat (l.getD k tok0).t.toNat else .empty
def isV (l : List Tok) (n : Nat) (k : Int) : Bool := decide (n < l.length) && decide ((l.getD n tok0).k = k)
abbrev stopT : Nat := 81
abbrev dieO (at_ e : Int) : Out := .die stopT [(.i64, at_), (.i64, e)]

theorem Lies.get {s : ByteArray} {l : List Tok} (h : Lies s l) {n : Nat} (hn : n < l.length) : 0 ≤ (l.getD n tok0).f ∧ (l.getD n tok0).f < (l.getD n tok0).t ∧ (l.getD n tok0).t ≤ s.size := by
  rw [List.getD_eq_getElem?_getD, List.getElem?_eq_getElem hn]
  exact h.1 _ (List.getElem_mem hn)

section
variable (s : ByteArray) (l : List Tok) (n c : Nat) (hl : Lies s l) (hn : n ≤ 1000000000000000) (hc : c ≤ 1000000)

include hn in
theorem at_spec : Proc PG 66 1 [.ptr 0 0] [pC s l n c] (vi (atV s l n)) [pC s l n c] := by
  refine Proc.mk (cfgF 29 1) tysOK [0] Tryz.func66 rfl (by kernel_rfl) rfl rfl rfl ?_
  intro C x
  refine x.quiet rfl trivial mixedP (by kernel_rfl) ?_
  refine x.qdone rfl trivial ?_
  refine x.cond rfl trivial (fun h => ?_) (fun h => ?_)
  · have h : (n : Int) < (l.length : Int) := of_decide_eq_true h
    rw [atV, if_pos (by omega)]
    refine x.quiet rfl trivial mixedP (by kernel_rfl) ?_
    refine x.qdone rfl ?_ ?_
    · show 0 ≤ (n : Int) ∧ (n : Int) < (l.length : Int)
      omega
    refine x.exit rfl trivial ?_
    exact ⟨.inr rfl, rfl, ⟨⟨rfl, veq0_d rfl, rfl, rfl, trivial⟩, trivial⟩, rfl⟩
  · have h : ¬ (n : Int) < (l.length : Int) := of_decide_eq_false h
    rw [atV, if_neg (by omega)]
    refine x.exit rfl trivial ?_
    exact ⟨.inr rfl, rfl, ⟨⟨rfl, veq0_d rfl, rfl, rfl, trivial⟩, trivial⟩, rfl⟩
include hn in
theorem fail_spec (e : Int) : Dies PG 48 [.ptr 0 0, vi e] [pC s l n c] stopT [(.i64, atV s l n), (.i64, e)] := by
  refine ProcO.mk (out := dieO (atV s l n) e) (cfgF 9 1) tysOK [0] Tryz.func48 rfl (by kernel_rfl) rfl rfl rfl ?_
  intro C x
  refine x.call [0] rfl trivial rfl (at_spec s l n c hn) rfl ⟨⟨rfl, rfl⟩, trivial⟩ ⟨⟨rfl, veq0_d rfl, rfl, rfl, trivial⟩, trivial⟩ ?_
  exact x.raise rfl trivial rfl rfl rfl ⟨rfl, rfl⟩

include hn in
theorem room_spec (a b : Int) : ProcO PG 45 1 [.ptr 0 0, vi a, vi b] [pC s l n c] (if b ≤ a then dieO (atV s l n) 3 else .ret (.tup []) [pC s l n c]) := by
  refine ProcO.mk (cfgF 11 1) tysOK [0] Tryz.func45 rfl (by kernel_rfl) rfl rfl (by split <;> rfl) ?_
  intro C x
  refine x.cond rfl trivial (fun h => ?_) (fun h => ?_)
  · have h : b ≤ a := of_decide_eq_true h
    rw [if_pos h]
    exact x.die [0] rfl trivial rfl (fail_spec s l n c hn 3) ⟨⟨rfl, rfl⟩, rfl, trivial⟩ rfl ⟨⟨rfl, veq0_d rfl, rfl, rfl, trivial⟩, trivial⟩ ⟨rfl, rfl⟩
  · have h : ¬ b ≤ a := of_decide_eq_false h
    rw [if_neg h]
    refine x.exit rfl trivial ?_
    exact ⟨.inl rfl, trivial, ⟨⟨rfl, veq0_d rfl, rfl, rfl, trivial⟩, trivial⟩, rfl⟩

include hl hn in
theorem text_spec (k : Nat) (hk : k ≤ 1) : Proc PG 44 1 [.ptr 0 0, vi (k : Int)] [pC s l n c] (vs (txV s l (n + k))) [pC s l n c] := by
  refine Proc.mk (cfgF 40 1) tysOK [0] Tryz.func44 rfl (by kernel_rfl) rfl rfl rfl ?_
  intro C x
  refine x.cond rfl ?_ (fun h => ?_) (fun h => ?_)
  · simp only [AllP, inI64]; omega
  · have h : (n : Int) + k < (l.length : Int) := of_decide_eq_true h
    have h' : n + k < l.length := by omega
    have ht := hl.get h'
    have hi : ((n : Int) + k).toNat = n + k := by omega
    rw [txV, if_pos h']
    have hsz : s.size ≤ 140737488355328 := hl.2.2
    refine x.quiet rfl trivial mixedP (by kernel_rfl) ?_
    refine x.qdone rfl ?_ ?_
    · simp only [AllP, hi]
      omega
    refine x.exit rfl trivial ?_
    refine ⟨.inr rfl, ?_, ⟨⟨rfl, veq0_d rfl, rfl, rfl, trivial⟩, trivial⟩, rfl⟩
    rw [← hi]; rfl
  · have h : ¬ (n : Int) + k < (l.length : Int) := of_decide_eq_false h
    rw [txV, if_neg (by omega)]
    refine x.exit rfl trivial ?_
    exact ⟨.inr rfl, rfl, ⟨⟨rfl, veq0_d rfl, rfl, rfl, trivial⟩, trivial⟩, rfl⟩

theorem is_spec (k : Int) : Proc PG 68 1 [.ptr 0 0, .d (.int .u8 k)] [pC s l n c] (vb (isV l n k)) [pC s l n c] := by
  refine Proc.mk (cfgF 30 1) tysOK [0] Tryz.func68 rfl (by kernel_rfl) rfl rfl rfl ?_
  intro C x
  refine x.quiet rfl trivial mixedP (by kernel_rfl) ?_
  refine x.qdone rfl ?_ ?_
  · simp only [AllP, decide_eq_true_eq]
    omega
  refine x.exit rfl trivial ?_
  refine ⟨.inr rfl, ?_, ⟨⟨rfl, veq0_d rfl, rfl, rfl, trivial⟩, trivial⟩, rfl⟩
  show VEq0 (vb (decide ((n : Int) < (l.length : Int)) && decide ((l.getD ((n : Int).toNat) tok0).k = k))) (vb (isV l n k))
  rw [isV, Int.toNat_natCast, show decide ((n : Int) < (l.length : Int)) = decide (n < l.length) by simp]
  rfl

include hl hn in
theorem take_spec (k : Int) : ProcO PG 82 1 [.ptr 0 0, .d (.int .u8 k)] [pC s l n c] (if isV l n k = true then .ret (vs (txV s l n)) [pC s l (n + 1) c] else dieO (atV s l n) 7) := by
  refine ProcO.mk (cfgF 22 1) tysOK [0] Tryz.func82 rfl (by kernel_rfl) rfl rfl (by split <;> rfl) ?_
  intro C x
  refine x.call [0] rfl trivial rfl (is_spec s l n c k) rfl ⟨⟨rfl, rfl⟩, rfl, trivial⟩ ⟨⟨rfl, veq0_d rfl, rfl, rfl, trivial⟩, trivial⟩ ?_
  refine x.cond rfl trivial (fun h => ?_) (fun h => ?_)
  · have h : isV l n k = false := by simpa using h
    rw [h, if_neg (by simp)]
    exact x.die [0] rfl trivial rfl (fail_spec s l n c hn 7) ⟨⟨rfl, rfl⟩, rfl, trivial⟩ rfl ⟨⟨rfl, veq0_d rfl, rfl, rfl, trivial⟩, trivial⟩ ⟨rfl, rfl⟩
  · have h : isV l n k = true := by simpa using h
    rw [h, if_pos rfl]
    refine x.call [0] rfl trivial rfl (text_spec s l n c hl hn 0 (by omega)) rfl ⟨⟨rfl, rfl⟩, rfl, trivial⟩ ⟨⟨rfl, veq0_d rfl, rfl, rfl, trivial⟩, trivial⟩ ?_
    refine x.exit rfl ?_ ?_
    · simp only [AllP, inI64]; omega
    · exact ⟨.inr rfl, rfl, ⟨⟨rfl, veq0_d rfl, by show VEq0 (vi ((n : Int) + 1)) (vi ((n + 1 : Nat) : Int)); rw [Int.natCast_add]; rfl, rfl, trivial⟩, trivial⟩, rfl⟩

include hl hn in
theorem need_spec (t : ByteArray) : ProcO PG 72 1 [.ptr 0 0, vs t] [pC s l n c] (if (txV s l n).data.toList = t.data.toList then .ret (.tup []) [pC s l (n + 1) c] else dieO (atV s l n) 7) := by
  refine ProcO.mk (cfgF 17 1) tysOK [0] Tryz.func72 rfl (by kernel_rfl) rfl rfl (by split <;> rfl) ?_
  intro C x
  refine x.call [0] rfl trivial rfl (text_spec s l n c hl hn 0 (by omega)) rfl ⟨⟨rfl, rfl⟩, rfl, trivial⟩ ⟨⟨rfl, veq0_d rfl, rfl, rfl, trivial⟩, trivial⟩ ?_
  refine x.cond rfl trivial (fun h => ?_) (fun h => ?_)
  · have h : (!decide ((txV s l n).data.toList = t.data.toList)) = true := h
    rw [if_neg (by simpa using h)]
    exact x.die [0] rfl trivial rfl (fail_spec s l n c hn 7) ⟨⟨rfl, rfl⟩, rfl, trivial⟩ rfl ⟨⟨rfl, veq0_d rfl, rfl, rfl, trivial⟩, trivial⟩ ⟨rfl, rfl⟩
  · have h : (!decide ((txV s l n).data.toList = t.data.toList)) = false := h
    rw [if_pos (by simpa using h)]
    refine x.exit rfl ?_ ?_
    · simp only [AllP, inI64]; omega
    · exact ⟨.inl rfl, trivial, ⟨⟨rfl, veq0_d rfl, by show VEq0 (vi ((n : Int) + 1)) (vi ((n + 1 : Nat) : Int)); rw [Int.natCast_add]; rfl, rfl, trivial⟩, trivial⟩, rfl⟩

include hl hn in
theorem name7_spec : ProcO PG 67 1 [.ptr 0 0] [pC s l n c] (if isV l n 1 = true then .ret (vs (txV s l n)) [pC s l (n + 1) c] else dieO (atV s l n) 7) := by
  refine ProcO.mk (cfgF 5 1) tysOK [0] Tryz.func67 rfl (by kernel_rfl) rfl rfl (by split <;> rfl) ?_
  intro C x
  have ht := take_spec s l n c hl hn 1
  cases h : isV l n 1 with
  | false =>
    rw [h, if_neg (by simp)] at ht
    rw [if_neg (by simp)]
    exact x.die [0] rfl trivial rfl ht ⟨⟨rfl, rfl⟩, rfl, trivial⟩ rfl ⟨⟨rfl, veq0_d rfl, rfl, rfl, trivial⟩, trivial⟩ ⟨rfl, rfl⟩
  | true =>
    rw [h, if_pos rfl] at ht
    rw [if_pos rfl]
    refine x.call [0] rfl trivial rfl ht rfl ⟨⟨rfl, rfl⟩, rfl, trivial⟩ ⟨⟨rfl, veq0_d rfl, rfl, rfl, trivial⟩, trivial⟩ ?_
    refine x.exit rfl trivial ?_
    exact ⟨.inr rfl, rfl, ⟨⟨rfl, veq0_d rfl, rfl, rfl, trivial⟩, trivial⟩, rfl⟩
def begB (s : ByteArray) (l : List Tok) (n : Nat) : Bool := isV l n 1 && decide ((txV s l (n + 1)).data.toList = [58])
include hl hn in
theorem begins_spec : Proc PG 74 1 [.ptr 0 0] [pC s l n c] (vb (begB s l n)) [pC s l n c] := by
  refine Proc.mk (cfgF 10 1) tysOK [0] Tryz.func74 rfl (by kernel_rfl) rfl rfl rfl ?_
  intro C x
  refine x.call [0] rfl trivial rfl (is_spec s l n c 1) rfl ⟨⟨rfl, rfl⟩, rfl, trivial⟩ ⟨⟨rfl, veq0_d rfl, rfl, rfl, trivial⟩, trivial⟩ ?_
  refine x.callG [0] rfl trivial rfl (fun _ => text_spec s l n c hl hn 1 (by omega)) rfl ⟨⟨rfl, rfl⟩, rfl, trivial⟩ ⟨⟨rfl, veq0_d rfl, rfl, rfl, trivial⟩, trivial⟩ ⟨⟨rfl, veq0_d rfl, rfl, rfl, trivial⟩, trivial⟩ ?_
  refine x.exit rfl trivial ?_
  exact ⟨.inr rfl, rfl, ⟨⟨rfl, veq0_d rfl, rfl, rfl, trivial⟩, trivial⟩, rfl⟩

include hl hn in
theorem number7_spec : ProcO PG 70 1 [.ptr 0 0] [pC s l n c] (if isV l n 3 = true then .ret (vi (numV (txV s l n)).1) [pC s l (n + 1) c] else dieO (atV s l n) 7) := by
  refine ProcO.mk (cfgF 12 1) tysOK [0] Tryz.func70 rfl (by kernel_rfl) rfl rfl (by split <;> rfl) ?_
  intro C x
  have ht := take_spec s l n c hl hn 3
  cases h : isV l n 3 with
  | false =>
    rw [h, if_neg (by simp)] at ht
    rw [if_neg (by simp)]
    exact x.die [0] rfl trivial rfl ht ⟨⟨rfl, rfl⟩, rfl, trivial⟩ rfl ⟨⟨rfl, veq0_d rfl, rfl, rfl, trivial⟩, trivial⟩ ⟨rfl, rfl⟩
  | true =>
    rw [h, if_pos rfl] at ht
    rw [if_pos rfl]
    refine x.call [0] rfl trivial rfl ht rfl ⟨⟨rfl, rfl⟩, rfl, trivial⟩ ⟨⟨rfl, veq0_d rfl, rfl, rfl, trivial⟩, trivial⟩ ?_
    refine x.pure rfl trivial rfl (number_spec (txV s l n)) ⟨rfl, trivial⟩ ?_
    refine x.exit rfl trivial ?_
    exact ⟨.inr rfl, rfl, ⟨⟨rfl, veq0_d rfl, rfl, rfl, trivial⟩, trivial⟩, rfl⟩
end
end Go.Proofs.YteeofakohenpoaaGreatDoor

/- Lists of names, as the program reads them. -/
namespace Go.Proofs.YteeofakohenpoaaGreatDoor
open Go.Sx
set_option linter.unusedVariables false
set_option linter.unusedSimpArgs false
set_option maxRecDepth 100000

abbrev strC (o : List ByteArray) : Ch := .vec 9 1 o.length fun i => [.str (o.getD i .empty)]
theorem app_str (o : List ByteArray) (t : ByteArray) (j : Nat) (hj : j < o.length + 1) : app o.length (fun i => [D.str (o.getD i .empty)]) (fun _ => [D.str t]) j = [D.str ((o ++ [t]).getD j .empty)] := by
  unfold app
  by_cases h : j < o.length
  · show zipIte (j < o.length) [D.str (o.getD j .empty)] [D.str t] = _
    rw [List.getD_eq_getElem?_getD, List.getD_eq_getElem?_getD, List.getElem?_append_left h]
    simp only [zipIte, iteD_pos h]
    rw [if_pos h]
  · show zipIte (j < o.length) [D.str (o.getD j .empty)] [D.str t] = _
    have e : j = o.length := by omega
    rw [List.getD_eq_getElem?_getD (l := o ++ [t]), List.getElem?_append_right (by omega), e, Nat.sub_self]
    simp only [zipIte, iteD_neg (Nat.lt_irrefl _)]
    rw [if_neg (Nat.lt_irrefl _)]
    rfl

section
variable (s : ByteArray) (l : List Tok) (n c : Nat) (hl : Lies s l) (hn : n ≤ 1000000000000000) (hc : c ≤ 1000000)
include hl hn in
theorem names1_spec (o : List ByteArray) (ho : o.length ≤ 1000) : ProcO PG 85 3 [.ptr 1 0, .ptr 2 0] [pC s l n c, .box [.own 3], .box [.ptr 0 0], strC o] (if isV l n 1 = true then .ret (.tup []) [pC s l (n + 1) c, .box [.own 3], .box [.ptr 0 0], strC (o ++ [txV s l n])] else dieO (atV s l n) 7) := by
  refine ProcO.mk (cfgF 7 3) tysOK [0, 1, 2, 3] Tryz.func85 rfl (by kernel_rfl) rfl rfl (by split <;> rfl) ?_
  intro C x
  have ht := name7_spec s l n c hl hn
  cases h : isV l n 1 with
  | false =>
    rw [h, if_neg (by simp)] at ht
    rw [if_neg (by simp)]
    refine x.draw [0] [] [0, 1] [2, 3] [4, 5] rfl trivial mixedP (by kernel_rfl) RetO.quiet rfl trivial (fun C1 x1 => ?_)
    exact x1.die [0] rfl trivial rfl ht ⟨⟨rfl, rfl⟩, trivial⟩ rfl ⟨⟨rfl, veq0_d rfl, rfl, rfl, trivial⟩, trivial⟩ ⟨⟨_, rfl⟩, rfl, rfl, rfl⟩
  | true =>
    rw [h, if_pos rfl] at ht
    rw [if_pos rfl]
    refine x.draw [0] [] [0, 1] [2, 3] [4, 5] rfl trivial mixedP (by kernel_rfl) RetO.quiet rfl trivial (fun C1 x1 => ?_)
    refine x1.call [0] rfl trivial rfl ht rfl ⟨⟨rfl, rfl⟩, trivial⟩ ⟨⟨rfl, veq0_d rfl, rfl, rfl, trivial⟩, trivial⟩ ?_
    refine x1.back rfl trivial ?_
    refine x1.back rfl trivial ?_
    refine x.exit rfl ?_ ?_
    · simp only [AllP, big]; omega
    · refine ⟨.inl rfl, trivial, ⟨⟨rfl, veq0_d rfl, rfl, rfl, trivial⟩, ⟨rfl, trivial⟩, ⟨⟨rfl, rfl⟩, trivial⟩, ⟨rfl, rfl, ?_, fun j hj => app_str o _ j hj⟩, trivial⟩, rfl⟩
      show o.length + 1 = (o ++ [txV s l n]).length
      simp
end

/-- Names with , between; the place and number of the first fault, or where it stands then, and the names. -/
def namesF (s : ByteArray) (l : List Tok) : Nat → Nat → Nat → List ByteArray → Except (Int × Int) (Nat × List ByteArray)
  | 0, _, _, _ => .error (0, 0)
  | f + 1, n, k, out =>
    if isV l n 1 = true then
      if 6 ≤ k then .error (atV s l n, 3)
      else if (txV s l (n + 1)).data.toList = [44] then namesF s l f (n + 2) (k + 1) (out ++ [txV s l n])
      else .ok (n + 1, out ++ [txV s l n])
    else .error (atV s l n, 7)
def namesO (s : ByteArray) (l : List Tok) (c : Nat) : Except (Int × Int) (Nat × List ByteArray) → Out
  | .ok (n, o) => .ret (.tup []) [pC s l n c, .box [.own 3], .box [.ptr 0 0], strC o]
  | .error (a, e) => dieO a e
structure LW (s : ByteArray) (l : List Tok) (R : Except (Int × Int) (Nat × List ByteArray)) where
  f : Nat
  n : Nat
  k : Nat
  out : List ByteArray
  hf : l.length + 2 ≤ f + n
  hn : n ≤ l.length + 1
  hk : k ≤ 6
  ho : out.length = k
  same : namesF s l f n k out = R
theorem isV_lt {l : List Tok} {n : Nat} {k : Int} (h : isV l n k = true) : n < l.length := by
  unfold isV at h
  simp only [Bool.and_eq_true, decide_eq_true_eq] at h
  exact h.1

section
variable (s : ByteArray) (l : List Tok) (n c : Nat) (hl : Lies s l) (hn : n ≤ l.length)
include hl hn in
theorem list_names : ProcO PG 84 3 [.ptr 0 0, vi 6, .fn 85 [.ptr 1 0, .ptr 2 0]] [pC s l n c, .box [.own 3], .box [.ptr 0 0], strC []] (namesO s l c (namesF s l (l.length + 2) n 0 [])) := by
  obtain ⟨R, hR⟩ : ∃ R, namesF s l (l.length + 2) n 0 [] = R := ⟨_, rfl⟩
  rw [hR]
  have hll := hl.2.1
  refine ProcO.mk (cfgF 27 3) tysOK [0, 1, 2, 3] Tryz.func84 rfl (by kernel_rfl) rfl rfl (by rcases R with ⟨a, e⟩ | ⟨n, o⟩ <;> rfl) ?_
  intro C x
  refine x.loop (α := LW s l R) (fun y => ⟨[(0, .ptr 0 0), (1, vi 6), (2, .fn 85 [.ptr 1 0, .ptr 2 0]), (6, vi (y.k : Int))], [(0, pC s l y.n c), (1, .box [.own 3]), (2, .box [.ptr 0 0]), (3, strC y.out)], 4⟩) (fun y => y.f) ⟨l.length + 2, n, 0, [], by omega, by omega, by omega, rfl, hR⟩ rfl trivial ⟨⟨⟨rfl, rfl⟩, rfl, rfl, rfl, trivial⟩, ⟨⟨rfl, veq0_d rfl, rfl, rfl, trivial⟩, ⟨rfl, trivial⟩, ⟨⟨rfl, rfl⟩, trivial⟩, ⟨rfl, rfl, rfl, fun j hj => absurd hj (Nat.not_lt_zero _)⟩, trivial⟩, rfl⟩ (fun y => ?_)
  obtain ⟨f, n, k, out, hf, hn, hk, ho, same⟩ := y
  have hn2 : n ≤ 1000000000000000 := by omega
  change Go C _ ⟨[(0, .ptr 0 0), (1, vi 6), (2, .fn 85 [.ptr 1 0, .ptr 2 0]), (6, vi (k : Int))], [(0, pC s l n c), (1, .box [.own 3]), (2, .box [.ptr 0 0]), (3, strC out)], 4⟩ _
  refine x.call [0] rfl trivial rfl (is_spec s l n c 1) rfl ⟨⟨rfl, rfl⟩, rfl, trivial⟩ ⟨⟨rfl, veq0_d rfl, rfl, rfl, trivial⟩, trivial⟩ ?_
  have h1 := names1_spec s l n c hl hn2 out (by omega)
  cases f with
  | zero => omega
  | succ f =>
  rw [namesF] at same
  refine x.cond rfl trivial (fun h => ?_) (fun h => ?_)
  · have h : isV l n 1 = true := h
    have hlt := isV_lt h
    rw [if_pos h] at same h1
    have h2 := room_spec s l n c hn2 (k : Int) 6
    by_cases h3 : 6 ≤ k
    · rw [if_pos h3] at same
      rw [if_pos (by omega)] at h2
      exact x.die [0] rfl trivial rfl h2 ⟨⟨rfl, rfl⟩, rfl, rfl, trivial⟩ rfl ⟨⟨rfl, veq0_d rfl, rfl, rfl, trivial⟩, trivial⟩ (by rw [← same]; exact ⟨rfl, rfl⟩)
    · rw [if_neg h3] at same
      rw [if_neg (by omega)] at h2
      refine x.call [0] rfl trivial rfl h2 rfl ⟨⟨rfl, rfl⟩, rfl, rfl, trivial⟩ ⟨⟨rfl, veq0_d rfl, rfl, rfl, trivial⟩, trivial⟩ ?_
      refine x.call [0, 1, 2, 3] rfl trivial rfl h1 rfl ⟨⟨rfl, rfl⟩, ⟨rfl, rfl⟩, trivial⟩ ⟨⟨rfl, veq0_d rfl, rfl, rfl, trivial⟩, ⟨rfl, trivial⟩, ⟨⟨rfl, rfl⟩, trivial⟩, ⟨rfl, rfl, rfl, fun _ _ => rfl⟩, trivial⟩ ?_
      refine x.call [0] rfl trivial rfl (text_spec s l (n + 1) c hl (by omega) 0 (by omega)) rfl ⟨⟨rfl, rfl⟩, rfl, trivial⟩ ⟨⟨rfl, veq0_d rfl, rfl, rfl, trivial⟩, trivial⟩ ?_
      refine x.cond rfl trivial (fun h4 => ?_) (fun h4 => ?_)
      · have h4 : (!decide ((txV s l (n + 1)).data.toList = [44])) = true := h4
        rw [if_neg (by simpa using h4)] at same
        refine x.exit rfl trivial ?_
        rw [← same]
        exact ⟨.inr rfl, trivial, ⟨⟨rfl, veq0_d rfl, rfl, rfl, trivial⟩, ⟨rfl, trivial⟩, ⟨⟨rfl, rfl⟩, trivial⟩, ⟨rfl, rfl, rfl, fun _ _ => rfl⟩, trivial⟩, rfl⟩
      · have h4 : (!decide ((txV s l (n + 1)).data.toList = [44])) = false := h4
        rw [if_pos (by simpa using h4)] at same
        refine x.back rfl ?_ ⟨⟨f, n + 2, k + 1, out ++ [txV s l n], by omega, by omega, by omega, by rw [List.length_append, ho]; rfl, same⟩, by show f < f + 1; omega, ⟨⟨rfl, rfl⟩, rfl, rfl, ?_, trivial⟩, ⟨⟨rfl, veq0_d rfl, ?_, rfl, trivial⟩, ⟨rfl, trivial⟩, ⟨⟨rfl, rfl⟩, trivial⟩, ⟨rfl, rfl, rfl, fun _ _ => rfl⟩, trivial⟩, rfl⟩
        · simp only [AllP, inI64]; omega
        · show VEq0 (vi ((k : Int) + 1)) (vi ((k + 1 : Nat) : Int)); rw [Int.natCast_add]; rfl
        · show VEq0 (vi (((n + 1 : Nat) : Int) + 1)) (vi ((n + 2 : Nat) : Int)); rw [show (n + 2 : Nat) = (n + 1) + 1 by omega, Int.natCast_add (n + 1) 1]; rfl
  · have h : isV l n 1 = false := h
    rw [h, if_neg (by simp)] at same h1
    exact x.die [0, 1, 2, 3] rfl trivial rfl h1 ⟨⟨rfl, rfl⟩, ⟨rfl, rfl⟩, trivial⟩ rfl ⟨⟨rfl, veq0_d rfl, rfl, rfl, trivial⟩, ⟨rfl, trivial⟩, ⟨⟨rfl, rfl⟩, trivial⟩, ⟨rfl, rfl, rfl, fun _ _ => rfl⟩, trivial⟩ (by rw [← same]; exact ⟨rfl, rfl⟩)
end

theorem namesF_le {s : ByteArray} {l : List Tok} : ∀ {f n k : Nat} {out : List ByteArray} {n' : Nat} {o : List ByteArray}, namesF s l f n k out = .ok (n', o) → n' ≤ l.length ∧ n < n' ∧ (out.length = k → k ≤ 6 → o.length ≤ 6)
  | 0, n, k, out, n', o, h => by simp [namesF] at h
  | f + 1, n, k, out, n', o, h => by
    rw [namesF] at h
    split at h
    · rename_i h1
      have h1 := isV_lt h1
      split at h
      · cases h
      · split at h
        · obtain ⟨e1, e2, e3⟩ := namesF_le h
          exact ⟨e1, by omega, fun h2 h3 => e3 (by rw [List.length_append, h2]; rfl) (by omega)⟩
        · simp only [Except.ok.injEq, Prod.mk.injEq] at h
          obtain ⟨rfl, rfl⟩ := h
          exact ⟨by omega, by omega, fun h2 h3 => by rw [List.length_append, h2]; show k + 1 ≤ 6; omega⟩
    · cases h
theorem tx_lt {s : ByteArray} {l : List Tok} {n : Nat} {b : UInt8} {r : List UInt8} (h : (txV s l n).data.toList = b :: r) : n < l.length := by
  unfold txV at h
  split at h
  · assumption
  · cases h

/-- What closes it. -/
def closeV {α : Type} (s : ByteArray) (l : List Tok) (b : UInt8) : Except (Int × Int) (Nat × α) → Except (Int × Int) (Nat × α)
  | .error e => .error e
  | .ok (n, o) => if (txV s l n).data.toList = [b] then .ok (n + 1, o) else .error (atV s l n, 7)
/-- Names in brackets. -/
def namesV (s : ByteArray) (l : List Tok) (n : Nat) : Except (Int × Int) (Nat × List ByteArray) :=
  if (txV s l n).data.toList = [40] then
    if (txV s l (n + 1)).data.toList = [41] then .ok (n + 2, [])
    else closeV s l 41 (namesF s l (l.length + 2) (n + 1) 0 [])
  else .error (atV s l n, 7)
def namesVO (s : ByteArray) (l : List Tok) (c : Nat) : Except (Int × Int) (Nat × List ByteArray) → Out
  | .ok (n, o) => .ret (.own 1) [pC s l n c, strC o]
  | .error (a, e) => dieO a e

section
variable (s : ByteArray) (l : List Tok) (n c : Nat) (hl : Lies s l) (hn : n ≤ l.length)
include hl hn in
theorem names7_spec : ProcO PG 71 1 [.ptr 0 0] [pC s l n c] (namesVO s l c (namesV s l n)) := by
  have hll := hl.2.1
  refine ProcO.mk (cfgF 15 1) tysOK [0, 3] Tryz.func71 rfl (by kernel_rfl) rfl rfl (by rcases namesV s l n with ⟨a, e⟩ | ⟨n, o⟩ <;> rfl) ?_
  intro C x
  refine x.op rfl trivial ?_
  refine Go.ownB 2 0 9 1 (fun j => [D.str (([] : List ByteArray).getD j .empty)]) rfl rfl ?_
  have h1 := need_spec s l n c hl (by omega) ⟨#[40]⟩
  by_cases hp : (txV s l n).data.toList = [40]
  · rw [if_pos hp] at h1
    have hlt := tx_lt hp
    refine x.call [0] rfl trivial rfl h1 rfl ⟨⟨rfl, rfl⟩, rfl, trivial⟩ ⟨⟨rfl, veq0_d rfl, rfl, rfl, trivial⟩, trivial⟩ ?_
    refine x.call [0] rfl trivial rfl (text_spec s l (n + 1) c hl (by omega) 0 (by omega)) rfl ⟨⟨rfl, rfl⟩, rfl, trivial⟩ ⟨⟨rfl, veq0_d rfl, rfl, rfl, trivial⟩, trivial⟩ ?_
    refine x.cond rfl trivial (fun h2 => ?_) (fun h2 => ?_)
    · have h2 : (!decide ((txV s l (n + 1)).data.toList = [41])) = true := h2
      have h3 : ¬ (txV s l (n + 1)).data.toList = [41] := by simpa using h2
      have hls := list_names s l (n + 1) c hl (by omega)
      obtain ⟨R, hR⟩ : ∃ R, namesF s l (l.length + 2) (n + 1) 0 [] = R := ⟨_, rfl⟩
      have hV : namesV s l n = closeV s l 41 R := by
        rw [namesV, if_pos hp, if_neg h3, hR]
      rw [hR] at hls
      rcases R with ⟨a, e⟩ | ⟨n', o⟩
      · refine x.die [0, 2, 1, 3] rfl trivial rfl hls ⟨⟨rfl, rfl⟩, rfl, rfl, trivial⟩ rfl ⟨⟨rfl, veq0_d rfl, rfl, rfl, trivial⟩, ⟨rfl, trivial⟩, ⟨⟨rfl, rfl⟩, trivial⟩, ⟨rfl, rfl, rfl, fun _ _ => rfl⟩, trivial⟩ ?_
        rw [hV]
        exact ⟨rfl, rfl⟩
      · obtain ⟨e1, e2, e3⟩ := namesF_le hR
        refine x.call [0, 2, 1, 3] rfl trivial rfl hls rfl ⟨⟨rfl, rfl⟩, rfl, rfl, trivial⟩ ⟨⟨rfl, veq0_d rfl, rfl, rfl, trivial⟩, ⟨rfl, trivial⟩, ⟨⟨rfl, rfl⟩, trivial⟩, ⟨rfl, rfl, rfl, fun _ _ => rfl⟩, trivial⟩ ?_
        have h4 := need_spec s l n' c hl (by omega) ⟨#[41]⟩
        by_cases h5 : (txV s l n').data.toList = [41]
        · rw [if_pos h5] at h4
          refine x.call [0] rfl trivial rfl h4 rfl ⟨⟨rfl, rfl⟩, rfl, trivial⟩ ⟨⟨rfl, veq0_d rfl, rfl, rfl, trivial⟩, trivial⟩ ?_
          refine x.exit rfl trivial ?_
          rw [hV, closeV, if_pos h5]
          exact ⟨.inr rfl, rfl, ⟨⟨rfl, veq0_d rfl, rfl, rfl, trivial⟩, ⟨rfl, rfl, rfl, fun _ _ => rfl⟩, trivial⟩, rfl⟩
        · rw [if_neg h5] at h4
          refine x.die [0] rfl trivial rfl h4 ⟨⟨rfl, rfl⟩, rfl, trivial⟩ rfl ⟨⟨rfl, veq0_d rfl, rfl, rfl, trivial⟩, trivial⟩ ?_
          rw [hV, closeV, if_neg h5]
          exact ⟨rfl, rfl⟩
    · have h2 : (!decide ((txV s l (n + 1)).data.toList = [41])) = false := h2
      have h3 : (txV s l (n + 1)).data.toList = [41] := by simpa using h2
      have h4 := need_spec s l (n + 1) c hl (by omega) ⟨#[41]⟩
      rw [if_pos h3] at h4
      refine x.call [0] rfl trivial rfl h4 rfl ⟨⟨rfl, rfl⟩, rfl, trivial⟩ ⟨⟨rfl, veq0_d rfl, rfl, rfl, trivial⟩, trivial⟩ ?_
      refine x.exit rfl trivial ?_
      rw [namesV, if_pos hp, if_pos h3]
      exact ⟨.inr rfl, rfl, ⟨⟨rfl, veq0_d rfl, rfl, rfl, trivial⟩, ⟨rfl, rfl, rfl, fun _ _ => rfl⟩, trivial⟩, rfl⟩
  · rw [if_neg hp] at h1
    refine x.die [0] rfl trivial rfl h1 ⟨⟨rfl, rfl⟩, rfl, trivial⟩ rfl ⟨⟨rfl, veq0_d rfl, rfl, rfl, trivial⟩, trivial⟩ ?_
    rw [namesV, if_neg hp]
    exact ⟨rfl, rfl⟩
end
end Go.Proofs.YteeofakohenpoaaGreatDoor

/- What stands behind the words of instructions without a value. -/
namespace Go.Proofs.YteeofakohenpoaaGreatDoor
open Go.Sx
set_option linter.unusedVariables false
set_option linter.unusedSimpArgs false
set_option maxRecDepth 100000

structure Ins where
  kind : Int
  op : Int
  dst : ByteArray
  ref : ByteArray
  alt : ByteArray
  args : List ByteArray
  frm : List ByteArray
  num : Int
  at_ : Int
abbrev iC (x : Ins) : Ch := .box [.d (.int .u8 x.kind), .d (.int .u8 x.op), vs x.dst, vs x.ref, vs x.alt, .own 2, .own 3, vi x.num, vi x.at_]
abbrev HX (s : ByteArray) (l : List Tok) (n c : Nat) (x : Ins) : List Ch := [pC s l n c, iC x, strC x.args, strC x.frm]
def outI (s : ByteArray) (l : List Tok) (c : Nat) : Except (Int × Int) (Nat × Ins) → Out
  | .ok (n, x) => .ret (.tup []) (HX s l n c x)
  | .error (a, e) => dieO a e
theorem okI {s : ByteArray} {l : List Tok} {n c : Nat} {x : Ins} {m : Nat} (hm : 2 ≤ m) (r : Except (Int × Int) (Nat × Ins)) : okOut (cfgF m 2) [.ptr 0 0, .ptr 1 0] (HX s l n c x) (outI s l c r) = true := by
  have h : Nat.ble 2 m = true := by simpa using hm
  rcases r with ⟨a, e⟩ | ⟨n', x'⟩
  · show (Nat.ble 2 m && _ && _) = true
    rw [h]; rfl
  · show (Nat.ble 2 m && _ && _ && _ && _) = true
    rw [h]; rfl

/-- A name. -/
def nmV (s : ByteArray) (l : List Tok) (n : Nat) : Except (Int × Int) (Nat × ByteArray) := if isV l n 1 = true then .ok (n + 1, txV s l n) else .error (atV s l n, 7)
def bnd {α β : Type} (r : Except (Int × Int) (Nat × α)) (k : Nat → α → Except (Int × Int) (Nat × β)) : Except (Int × Int) (Nat × β) :=
  match r with
  | .error e => .error e
  | .ok (n, a) => k n a
theorem len1 (o : List ByteArray) (t : ByteArray) : o.length + 1 = (o ++ [t]).length := by simp
/-- A name that is an argument more. -/
def argV (s : ByteArray) (l : List Tok) (n : Nat) (x : Ins) : Except (Int × Int) (Nat × Ins) := bnd (nmV s l n) fun n a => .ok (n, { x with args := x.args ++ [a] })
def act1V (s : ByteArray) (l : List Tok) (n : Nat) (x : Ins) : Except (Int × Int) (Nat × Ins) :=
  bnd (nmV s l n) fun n r => let x : Ins := { { x with kind := 6 } with ref := r }; bnd (argV s l n x) fun n x => bnd (argV s l n x) fun n x => .ok (n, x)
def act2V (s : ByteArray) (l : List Tok) (n : Nat) (x : Ins) : Except (Int × Int) (Nat × Ins) :=
  bnd (nmV s l n) fun n r => let x : Ins := { { x with kind := 9 } with ref := r }; bnd (argV s l n x) fun n x => .ok (n, x)
def act3V (s : ByteArray) (l : List Tok) (n : Nat) (x : Ins) : Except (Int × Int) (Nat × Ins) :=
  bnd (nmV s l n) fun n r => let x : Ins := { { x with kind := 11 } with ref := r }; .ok (n, x)
def act4V (s : ByteArray) (l : List Tok) (n : Nat) (x : Ins) : Except (Int × Int) (Nat × Ins) :=
  bnd (argV s l n { x with kind := 12 }) fun n x => bnd (nmV s l n) fun n r => let x : Ins := { x with ref := r }; bnd (nmV s l n) fun n r => let x : Ins := { x with alt := r }; .ok (n, x)
def act5V (s : ByteArray) (l : List Tok) (n : Nat) (x : Ins) : Except (Int × Int) (Nat × Ins) :=
  bnd (argV s l n { x with kind := 13 }) fun n x => .ok (n, x)

section
variable (s : ByteArray) (l : List Tok) (n c : Nat) (hl : Lies s l) (hn : n ≤ l.length) (y : Ins) (hy : y.args.length ≤ 1000)
include hl hn hy in
theorem act1_spec : ProcO PG 94 2 [.ptr 0 0, .ptr 1 0] (HX s l n c y) (outI s l c (act1V s l n y)) := by
  have hll := hl.2.1
  refine ProcO.mk (cfgF 34 2) tysOK [0, 1, 2, 3] Tryz.func94 rfl (by kernel_rfl) rfl rfl (okI (by omega) _) ?_
  intro C x
  have h1 := name7_spec s l n c hl (by omega)
  cases e1 : isV l n 1 with
  | false =>
    rw [e1, if_neg (by simp)] at h1
    refine x.die [0] rfl trivial rfl h1 ⟨⟨rfl, rfl⟩, trivial⟩ rfl ⟨⟨rfl, veq0_d rfl, rfl, rfl, trivial⟩, trivial⟩ ?_
    simp only [act1V, argV, nmV, bnd, e1,  if_true, Bool.false_eq_true, if_false]
    exact ⟨rfl, rfl⟩
  | true =>
    rw [e1, if_pos rfl] at h1
    have l1 := isV_lt e1
    refine x.call [0] rfl trivial rfl h1 rfl ⟨⟨rfl, rfl⟩, trivial⟩ ⟨⟨rfl, veq0_d rfl, rfl, rfl, trivial⟩, trivial⟩ ?_
    have h2 := name7_spec s l (n + 1) c hl (by omega)
    cases e2 : isV l (n + 1) 1 with
    | false =>
      rw [e2, if_neg (by simp)] at h2
      refine x.draw [0] [0, 1, 5] [2, 3, 4] [6, 7] [8, 9, 10, 11] rfl trivial mixedP (by kernel_rfl) RetO.quiet rfl trivial (fun C1 x1 => ?_)
      refine x1.die [0] rfl trivial rfl h2 ⟨⟨rfl, rfl⟩, trivial⟩ rfl ⟨⟨rfl, veq0_d rfl, rfl, rfl, trivial⟩, trivial⟩ ⟨⟨_, rfl⟩, rfl, ?_⟩
      simp only [act1V, argV, nmV, bnd, e1, e2,  if_true, Bool.false_eq_true, if_false]
      exact ⟨rfl, rfl⟩
    | true =>
      rw [e2, if_pos rfl] at h2
      have l2 := isV_lt e2
      refine x.draw [0] [0, 1, 5] [2, 3, 4] [6, 7] [8, 9, 10, 11] rfl trivial mixedP (by kernel_rfl) RetO.quiet rfl trivial (fun C1 x1 => ?_)
      refine x1.call [0] rfl trivial rfl h2 rfl ⟨⟨rfl, rfl⟩, trivial⟩ ⟨⟨rfl, veq0_d rfl, rfl, rfl, trivial⟩, trivial⟩ ?_
      refine x1.back rfl trivial ?_
      refine x1.back rfl trivial ?_
      refine x.code rfl (by simp only [AllP, big, List.length_append, List.length_cons, List.length_nil]; omega) ?_
      refine x.le (s' := ⟨[(0, .ptr 0 0), (1, .ptr 1 0)], [(0, pC s l (n + 1 + 1) c), (1, iC { y with kind := 6, ref := txV s l n }), (2, strC (y.args ++ [txV s l (n + 1)])), (3, strC y.frm)], 4⟩) ⟨⟨⟨rfl, rfl⟩, ⟨rfl, rfl⟩, trivial⟩, ⟨⟨rfl, veq0_d rfl, rfl, rfl, trivial⟩, ⟨rfl, rfl, rfl, rfl, rfl, rfl, rfl, rfl, rfl, trivial⟩, ⟨rfl, rfl, len1 _ _, fun j hj => app_str _ _ j hj⟩, ⟨rfl, rfl, rfl, fun _ _ => rfl⟩, trivial⟩, rfl⟩ ?_
      have h3 := name7_spec s l (n + 1 + 1) c hl (by omega)
      cases e3 : isV l (n + 1 + 1) 1 with
      | false =>
        rw [e3, if_neg (by simp)] at h3
        refine x.draw [0] [0, 1, 5] [2, 3, 4] [6, 7] [8, 9, 10, 11] rfl trivial mixedP (by kernel_rfl) RetO.quiet rfl trivial (fun C1 x1 => ?_)
        refine x1.die [0] rfl trivial rfl h3 ⟨⟨rfl, rfl⟩, trivial⟩ rfl ⟨⟨rfl, veq0_d rfl, rfl, rfl, trivial⟩, trivial⟩ ⟨⟨_, rfl⟩, rfl, ?_⟩
        simp only [act1V, argV, nmV, bnd, e1, e2, e3,  if_true, Bool.false_eq_true, if_false]
        exact ⟨rfl, rfl⟩
      | true =>
        rw [e3, if_pos rfl] at h3
        have l3 := isV_lt e3
        refine x.draw [0] [0, 1, 5] [2, 3, 4] [6, 7] [8, 9, 10, 11] rfl trivial mixedP (by kernel_rfl) RetO.quiet rfl trivial (fun C1 x1 => ?_)
        refine x1.call [0] rfl trivial rfl h3 rfl ⟨⟨rfl, rfl⟩, trivial⟩ ⟨⟨rfl, veq0_d rfl, rfl, rfl, trivial⟩, trivial⟩ ?_
        refine x1.back rfl trivial ?_
        refine x1.back rfl trivial ?_
        refine x.exit rfl (by simp only [AllP, big, List.length_append, List.length_cons, List.length_nil]; omega) ?_
        simp only [act1V, argV, nmV, bnd, e1, e2, e3,  if_true, Bool.false_eq_true, if_false]
        exact ⟨.inl rfl, trivial, ⟨⟨rfl, veq0_d rfl, rfl, rfl, trivial⟩, ⟨rfl, rfl, rfl, rfl, rfl, rfl, rfl, rfl, rfl, trivial⟩, ⟨rfl, rfl, len1 _ _, fun j hj => app_str _ _ j hj⟩, ⟨rfl, rfl, rfl, fun _ _ => rfl⟩, trivial⟩, rfl⟩

include hl hn hy in
theorem act2_spec : ProcO PG 95 2 [.ptr 0 0, .ptr 1 0] (HX s l n c y) (outI s l c (act2V s l n y)) := by
  have hll := hl.2.1
  refine ProcO.mk (cfgF 23 2) tysOK [0, 1, 2, 3] Tryz.func95 rfl (by kernel_rfl) rfl rfl (okI (by omega) _) ?_
  intro C x
  have h1 := name7_spec s l n c hl (by omega)
  cases e1 : isV l n 1 with
  | false =>
    rw [e1, if_neg (by simp)] at h1
    refine x.die [0] rfl trivial rfl h1 ⟨⟨rfl, rfl⟩, trivial⟩ rfl ⟨⟨rfl, veq0_d rfl, rfl, rfl, trivial⟩, trivial⟩ ?_
    simp only [act2V, argV, nmV, bnd, e1,  if_true, Bool.false_eq_true, if_false]
    exact ⟨rfl, rfl⟩
  | true =>
    rw [e1, if_pos rfl] at h1
    have l1 := isV_lt e1
    refine x.call [0] rfl trivial rfl h1 rfl ⟨⟨rfl, rfl⟩, trivial⟩ ⟨⟨rfl, veq0_d rfl, rfl, rfl, trivial⟩, trivial⟩ ?_
    have h2 := name7_spec s l (n + 1) c hl (by omega)
    cases e2 : isV l (n + 1) 1 with
    | false =>
      rw [e2, if_neg (by simp)] at h2
      refine x.draw [0] [0, 1, 5] [2, 3, 4] [6, 7] [8, 9, 10, 11] rfl trivial mixedP (by kernel_rfl) RetO.quiet rfl trivial (fun C1 x1 => ?_)
      refine x1.die [0] rfl trivial rfl h2 ⟨⟨rfl, rfl⟩, trivial⟩ rfl ⟨⟨rfl, veq0_d rfl, rfl, rfl, trivial⟩, trivial⟩ ⟨⟨_, rfl⟩, rfl, ?_⟩
      simp only [act2V, argV, nmV, bnd, e1, e2,  if_true, Bool.false_eq_true, if_false]
      exact ⟨rfl, rfl⟩
    | true =>
      rw [e2, if_pos rfl] at h2
      have l2 := isV_lt e2
      refine x.draw [0] [0, 1, 5] [2, 3, 4] [6, 7] [8, 9, 10, 11] rfl trivial mixedP (by kernel_rfl) RetO.quiet rfl trivial (fun C1 x1 => ?_)
      refine x1.call [0] rfl trivial rfl h2 rfl ⟨⟨rfl, rfl⟩, trivial⟩ ⟨⟨rfl, veq0_d rfl, rfl, rfl, trivial⟩, trivial⟩ ?_
      refine x1.back rfl trivial ?_
      refine x1.back rfl trivial ?_
      refine x.exit rfl (by simp only [AllP, big, List.length_append, List.length_cons, List.length_nil]; omega) ?_
      simp only [act2V, argV, nmV, bnd, e1, e2,  if_true, Bool.false_eq_true, if_false]
      exact ⟨.inl rfl, trivial, ⟨⟨rfl, veq0_d rfl, rfl, rfl, trivial⟩, ⟨rfl, rfl, rfl, rfl, rfl, rfl, rfl, rfl, rfl, trivial⟩, ⟨rfl, rfl, len1 _ _, fun j hj => app_str _ _ j hj⟩, ⟨rfl, rfl, rfl, fun _ _ => rfl⟩, trivial⟩, rfl⟩

include hl hn in
theorem act3_spec : ProcO PG 96 2 [.ptr 0 0, .ptr 1 0] (HX s l n c y) (outI s l c (act3V s l n y)) := by
  have hll := hl.2.1
  refine ProcO.mk (cfgF 12 2) tysOK [0, 1, 2, 3] Tryz.func96 rfl (by kernel_rfl) rfl rfl (okI (by omega) _) ?_
  intro C x
  have h1 := name7_spec s l n c hl (by omega)
  cases e1 : isV l n 1 with
  | false =>
    rw [e1, if_neg (by simp)] at h1
    refine x.die [0] rfl trivial rfl h1 ⟨⟨rfl, rfl⟩, trivial⟩ rfl ⟨⟨rfl, veq0_d rfl, rfl, rfl, trivial⟩, trivial⟩ ?_
    simp only [act3V, argV, nmV, bnd, e1,  if_true, Bool.false_eq_true, if_false]
    exact ⟨rfl, rfl⟩
  | true =>
    rw [e1, if_pos rfl] at h1
    have l1 := isV_lt e1
    refine x.call [0] rfl trivial rfl h1 rfl ⟨⟨rfl, rfl⟩, trivial⟩ ⟨⟨rfl, veq0_d rfl, rfl, rfl, trivial⟩, trivial⟩ ?_
    refine x.exit rfl trivial ?_
    simp only [act3V, argV, nmV, bnd, e1,  if_true, Bool.false_eq_true, if_false]
    exact ⟨.inl rfl, trivial, ⟨⟨rfl, veq0_d rfl, rfl, rfl, trivial⟩, ⟨rfl, rfl, rfl, rfl, rfl, rfl, rfl, rfl, rfl, trivial⟩, ⟨rfl, rfl, rfl, fun _ _ => rfl⟩, ⟨rfl, rfl, rfl, fun _ _ => rfl⟩, trivial⟩, rfl⟩

include hl hn hy in
theorem act4_spec : ProcO PG 97 2 [.ptr 0 0, .ptr 1 0] (HX s l n c y) (outI s l c (act4V s l n y)) := by
  have hll := hl.2.1
  refine ProcO.mk (cfgF 28 2) tysOK [0, 1, 2, 3] Tryz.func97 rfl (by kernel_rfl) rfl rfl (okI (by omega) _) ?_
  intro C x
  have h1 := name7_spec s l n c hl (by omega)
  cases e1 : isV l n 1 with
  | false =>
    rw [e1, if_neg (by simp)] at h1
    refine x.draw [0] [0, 1, 5] [2, 3, 4] [6, 7] [8, 9, 10, 11] rfl trivial mixedP (by kernel_rfl) RetO.quiet rfl trivial (fun C1 x1 => ?_)
    refine x1.die [0] rfl trivial rfl h1 ⟨⟨rfl, rfl⟩, trivial⟩ rfl ⟨⟨rfl, veq0_d rfl, rfl, rfl, trivial⟩, trivial⟩ ⟨⟨_, rfl⟩, rfl, ?_⟩
    simp only [act4V, argV, nmV, bnd, e1,  if_true, Bool.false_eq_true, if_false]
    exact ⟨rfl, rfl⟩
  | true =>
    rw [e1, if_pos rfl] at h1
    have l1 := isV_lt e1
    refine x.draw [0] [0, 1, 5] [2, 3, 4] [6, 7] [8, 9, 10, 11] rfl trivial mixedP (by kernel_rfl) RetO.quiet rfl trivial (fun C1 x1 => ?_)
    refine x1.call [0] rfl trivial rfl h1 rfl ⟨⟨rfl, rfl⟩, trivial⟩ ⟨⟨rfl, veq0_d rfl, rfl, rfl, trivial⟩, trivial⟩ ?_
    refine x1.back rfl trivial ?_
    refine x1.back rfl trivial ?_
    have h2 := name7_spec s l (n + 1) c hl (by omega)
    cases e2 : isV l (n + 1) 1 with
    | false =>
      rw [e2, if_neg (by simp)] at h2
      refine x.die [0] rfl (by simp only [AllP, big, List.length_append, List.length_cons, List.length_nil]; omega) rfl h2 ⟨⟨rfl, rfl⟩, trivial⟩ rfl ⟨⟨rfl, veq0_d rfl, rfl, rfl, trivial⟩, trivial⟩ ?_
      simp only [act4V, argV, nmV, bnd, e1, e2,  if_true, Bool.false_eq_true, if_false]
      exact ⟨rfl, rfl⟩
    | true =>
      rw [e2, if_pos rfl] at h2
      have l2 := isV_lt e2
      refine x.call [0] rfl (by simp only [AllP, big, List.length_append, List.length_cons, List.length_nil]; omega) rfl h2 rfl ⟨⟨rfl, rfl⟩, trivial⟩ ⟨⟨rfl, veq0_d rfl, rfl, rfl, trivial⟩, trivial⟩ ?_
      have h3 := name7_spec s l (n + 1 + 1) c hl (by omega)
      cases e3 : isV l (n + 1 + 1) 1 with
      | false =>
        rw [e3, if_neg (by simp)] at h3
        refine x.die [0] rfl trivial rfl h3 ⟨⟨rfl, rfl⟩, trivial⟩ rfl ⟨⟨rfl, veq0_d rfl, rfl, rfl, trivial⟩, trivial⟩ ?_
        simp only [act4V, argV, nmV, bnd, e1, e2, e3,  if_true, Bool.false_eq_true, if_false]
        exact ⟨rfl, rfl⟩
      | true =>
        rw [e3, if_pos rfl] at h3
        have l3 := isV_lt e3
        refine x.call [0] rfl trivial rfl h3 rfl ⟨⟨rfl, rfl⟩, trivial⟩ ⟨⟨rfl, veq0_d rfl, rfl, rfl, trivial⟩, trivial⟩ ?_
        refine x.exit rfl trivial ?_
        simp only [act4V, argV, nmV, bnd, e1, e2, e3,  if_true, Bool.false_eq_true, if_false]
        exact ⟨.inl rfl, trivial, ⟨⟨rfl, veq0_d rfl, rfl, rfl, trivial⟩, ⟨rfl, rfl, rfl, rfl, rfl, rfl, rfl, rfl, rfl, trivial⟩, ⟨rfl, rfl, len1 _ _, fun j hj => app_str _ _ j hj⟩, ⟨rfl, rfl, rfl, fun _ _ => rfl⟩, trivial⟩, rfl⟩

include hl hn hy in
theorem act5_spec : ProcO PG 98 2 [.ptr 0 0, .ptr 1 0] (HX s l n c y) (outI s l c (act5V s l n y)) := by
  have hll := hl.2.1
  refine ProcO.mk (cfgF 18 2) tysOK [0, 1, 2, 3] Tryz.func98 rfl (by kernel_rfl) rfl rfl (okI (by omega) _) ?_
  intro C x
  have h1 := name7_spec s l n c hl (by omega)
  cases e1 : isV l n 1 with
  | false =>
    rw [e1, if_neg (by simp)] at h1
    refine x.draw [0] [0, 1, 5] [2, 3, 4] [6, 7] [8, 9, 10, 11] rfl trivial mixedP (by kernel_rfl) RetO.quiet rfl trivial (fun C1 x1 => ?_)
    refine x1.die [0] rfl trivial rfl h1 ⟨⟨rfl, rfl⟩, trivial⟩ rfl ⟨⟨rfl, veq0_d rfl, rfl, rfl, trivial⟩, trivial⟩ ⟨⟨_, rfl⟩, rfl, ?_⟩
    simp only [act5V, argV, nmV, bnd, e1,  if_true, Bool.false_eq_true, if_false]
    exact ⟨rfl, rfl⟩
  | true =>
    rw [e1, if_pos rfl] at h1
    have l1 := isV_lt e1
    refine x.draw [0] [0, 1, 5] [2, 3, 4] [6, 7] [8, 9, 10, 11] rfl trivial mixedP (by kernel_rfl) RetO.quiet rfl trivial (fun C1 x1 => ?_)
    refine x1.call [0] rfl trivial rfl h1 rfl ⟨⟨rfl, rfl⟩, trivial⟩ ⟨⟨rfl, veq0_d rfl, rfl, rfl, trivial⟩, trivial⟩ ?_
    refine x1.back rfl trivial ?_
    refine x1.back rfl trivial ?_
    refine x.exit rfl (by simp only [AllP, big, List.length_append, List.length_cons, List.length_nil]; omega) ?_
    simp only [act5V, argV, nmV, bnd, e1,  if_true, Bool.false_eq_true, if_false]
    exact ⟨.inl rfl, trivial, ⟨⟨rfl, veq0_d rfl, rfl, rfl, trivial⟩, ⟨rfl, rfl, rfl, rfl, rfl, rfl, rfl, rfl, rfl, trivial⟩, ⟨rfl, rfl, len1 _ _, fun j hj => app_str _ _ j hj⟩, ⟨rfl, rfl, rfl, fun _ _ => rfl⟩, trivial⟩, rfl⟩
end
end Go.Proofs.YteeofakohenpoaaGreatDoor

/- What stands behind the words that give a value (but phi). -/
namespace Go.Proofs.YteeofakohenpoaaGreatDoor
open Go.Sx
set_option linter.unusedVariables false
set_option linter.unusedSimpArgs false
set_option maxRecDepth 100000

/-- A name that is the one argument. -/
def oneV7 (s : ByteArray) (l : List Tok) (n : Nat) (x : Ins) : Except (Int × Int) (Nat × Ins) := bnd (nmV s l n) fun n a => .ok (n, { x with args := [a] })
def refV (s : ByteArray) (l : List Tok) (n : Nat) (x : Ins) : Except (Int × Int) (Nat × Ins) := bnd (nmV s l n) fun n a => .ok (n, { x with ref := a })
def constV (s : ByteArray) (l : List Tok) (n : Nat) (x : Ins) : Except (Int × Int) (Nat × Ins) := if isV l n 3 = true then .ok (n + 1, { x with kind := 1, num := (numV (txV s l n)).1 }) else .error (atV s l n, 7)
def inputV (s : ByteArray) (l : List Tok) (n : Nat) (x : Ins) : Except (Int × Int) (Nat × Ins) := refV s l n { x with kind := 8 }
def callV (s : ByteArray) (l : List Tok) (n : Nat) (x : Ins) : Except (Int × Int) (Nat × Ins) := bnd (refV s l n { x with kind := 7 }) fun n x => bnd (namesV s l n) fun n o => .ok (n, { x with args := o })
def releaseV (s : ByteArray) (l : List Tok) (n : Nat) (x : Ins) : Except (Int × Int) (Nat × Ins) := bnd (oneV7 s l n { x with kind := 10 }) fun n x => refV s l n x
def cellV (k : Int) (s : ByteArray) (l : List Tok) (n : Nat) (x : Ins) : Except (Int × Int) (Nat × Ins) := bnd (refV s l n { x with kind := k }) fun n x => oneV7 s l n x

section
variable (s : ByteArray) (l : List Tok) (n c : Nat) (hl : Lies s l) (hn : n ≤ l.length) (y : Ins)
include hl hn in
theorem val2_spec : ProcO PG 103 2 [.ptr 0 0, .ptr 1 0] (HX s l n c y) (outI s l c (constV s l n y)) := by
  have hll := hl.2.1
  refine ProcO.mk (cfgF 12 2) tysOK [0, 1, 2, 3] Tryz.func103 rfl (by kernel_rfl) rfl rfl (okI (by omega) _) ?_
  intro C x
  have h1 := number7_spec s l n c hl (by omega)
  cases e1 : isV l n 3 with
  | false =>
    rw [e1, if_neg (by simp)] at h1
    refine x.die [0] rfl trivial rfl h1 ⟨⟨rfl, rfl⟩, trivial⟩ rfl ⟨⟨rfl, veq0_d rfl, rfl, rfl, trivial⟩, trivial⟩ ?_
    simp only [constV, refV, oneV7, nmV, bnd, e1,  if_true, Bool.false_eq_true, if_false]
    exact ⟨rfl, rfl⟩
  | true =>
    rw [e1, if_pos rfl] at h1
    have l1 := isV_lt e1
    refine x.call [0] rfl trivial rfl h1 rfl ⟨⟨rfl, rfl⟩, trivial⟩ ⟨⟨rfl, veq0_d rfl, rfl, rfl, trivial⟩, trivial⟩ ?_
    refine x.exit rfl trivial ?_
    simp only [constV, refV, oneV7, nmV, bnd, e1,  if_true, Bool.false_eq_true, if_false]
    exact ⟨.inl rfl, trivial, ⟨⟨rfl, veq0_d rfl, rfl, rfl, trivial⟩, ⟨rfl, rfl, rfl, rfl, rfl, rfl, rfl, rfl, rfl, trivial⟩, ⟨rfl, rfl, rfl, fun _ _ => rfl⟩, ⟨rfl, rfl, rfl, fun _ _ => rfl⟩, trivial⟩, rfl⟩

include hl hn in
theorem val3_spec : ProcO PG 104 2 [.ptr 0 0, .ptr 1 0] (HX s l n c y) (outI s l c (inputV s l n y)) := by
  have hll := hl.2.1
  refine ProcO.mk (cfgF 12 2) tysOK [0, 1, 2, 3] Tryz.func104 rfl (by kernel_rfl) rfl rfl (okI (by omega) _) ?_
  intro C x
  have h1 := name7_spec s l n c hl (by omega)
  cases e1 : isV l n 1 with
  | false =>
    rw [e1, if_neg (by simp)] at h1
    refine x.die [0] rfl trivial rfl h1 ⟨⟨rfl, rfl⟩, trivial⟩ rfl ⟨⟨rfl, veq0_d rfl, rfl, rfl, trivial⟩, trivial⟩ ?_
    simp only [inputV, refV, oneV7, nmV, bnd, e1,  if_true, Bool.false_eq_true, if_false]
    exact ⟨rfl, rfl⟩
  | true =>
    rw [e1, if_pos rfl] at h1
    have l1 := isV_lt e1
    refine x.call [0] rfl trivial rfl h1 rfl ⟨⟨rfl, rfl⟩, trivial⟩ ⟨⟨rfl, veq0_d rfl, rfl, rfl, trivial⟩, trivial⟩ ?_
    refine x.exit rfl trivial ?_
    simp only [inputV, refV, oneV7, nmV, bnd, e1,  if_true, Bool.false_eq_true, if_false]
    exact ⟨.inl rfl, trivial, ⟨⟨rfl, veq0_d rfl, rfl, rfl, trivial⟩, ⟨rfl, rfl, rfl, rfl, rfl, rfl, rfl, rfl, rfl, trivial⟩, ⟨rfl, rfl, rfl, fun _ _ => rfl⟩, ⟨rfl, rfl, rfl, fun _ _ => rfl⟩, trivial⟩, rfl⟩

include hl hn in
theorem val4_spec : ProcO PG 105 2 [.ptr 0 0, .ptr 1 0] (HX s l n c y) (outI s l c (callV s l n y)) := by
  have hll := hl.2.1
  refine ProcO.mk (cfgF 17 2) tysOK [0, 1, 4, 3] Tryz.func105 rfl (by kernel_rfl) rfl rfl (okI (by omega) _) ?_
  intro C x
  have h1 := name7_spec s l n c hl (by omega)
  cases e1 : isV l n 1 with
  | false =>
    rw [e1, if_neg (by simp)] at h1
    refine x.die [0] rfl trivial rfl h1 ⟨⟨rfl, rfl⟩, trivial⟩ rfl ⟨⟨rfl, veq0_d rfl, rfl, rfl, trivial⟩, trivial⟩ ?_
    simp only [callV, refV, oneV7, nmV, bnd, e1,  if_true, Bool.false_eq_true, if_false]
    exact ⟨rfl, rfl⟩
  | true =>
    rw [e1, if_pos rfl] at h1
    have l1 := isV_lt e1
    refine x.call [0] rfl trivial rfl h1 rfl ⟨⟨rfl, rfl⟩, trivial⟩ ⟨⟨rfl, veq0_d rfl, rfl, rfl, trivial⟩, trivial⟩ ?_
    have h2 := names7_spec s l (n + 1) c hl (by omega)
    obtain ⟨R, e2⟩ : ∃ R, namesV s l (n + 1) = R := ⟨_, rfl⟩
    rw [e2] at h2
    rcases R with ⟨a, b⟩ | ⟨n', o⟩
    · refine x.die [0] rfl trivial rfl h2 ⟨⟨rfl, rfl⟩, trivial⟩ rfl ⟨⟨rfl, veq0_d rfl, rfl, rfl, trivial⟩, trivial⟩ ?_
      simp only [callV, refV, oneV7, nmV, bnd, e1, e2,  if_true, Bool.false_eq_true, if_false]
      exact ⟨rfl, rfl⟩
    · refine x.call [0] rfl trivial rfl h2 rfl ⟨⟨rfl, rfl⟩, trivial⟩ ⟨⟨rfl, veq0_d rfl, rfl, rfl, trivial⟩, trivial⟩ ?_
      refine x.exit rfl trivial ?_
      simp only [callV, refV, oneV7, nmV, bnd, e1, e2,  if_true, Bool.false_eq_true, if_false]
      exact ⟨.inl rfl, trivial, ⟨⟨rfl, veq0_d rfl, rfl, rfl, trivial⟩, ⟨rfl, rfl, rfl, rfl, rfl, rfl, rfl, rfl, rfl, trivial⟩, ⟨rfl, rfl, rfl, fun _ _ => rfl⟩, ⟨rfl, rfl, rfl, fun _ _ => rfl⟩, trivial⟩, rfl⟩

include hl hn in
theorem val5_spec : ProcO PG 106 2 [.ptr 0 0, .ptr 1 0] (HX s l n c y) (outI s l c (releaseV s l n y)) := by
  have hll := hl.2.1
  refine ProcO.mk (cfgF 18 2) tysOK [0, 1, 4, 3] Tryz.func106 rfl (by kernel_rfl) rfl rfl (okI (by omega) _) ?_
  intro C x
  have h1 := name7_spec s l n c hl (by omega)
  cases e1 : isV l n 1 with
  | false =>
    rw [e1, if_neg (by simp)] at h1
    refine x.die [0] rfl trivial rfl h1 ⟨⟨rfl, rfl⟩, trivial⟩ rfl ⟨⟨rfl, veq0_d rfl, rfl, rfl, trivial⟩, trivial⟩ ?_
    simp only [releaseV, refV, oneV7, nmV, bnd, e1,  if_true, Bool.false_eq_true, if_false]
    exact ⟨rfl, rfl⟩
  | true =>
    rw [e1, if_pos rfl] at h1
    have l1 := isV_lt e1
    refine x.call [0] rfl trivial rfl h1 rfl ⟨⟨rfl, rfl⟩, trivial⟩ ⟨⟨rfl, veq0_d rfl, rfl, rfl, trivial⟩, trivial⟩ ?_
    have h2 := name7_spec s l (n + 1) c hl (by omega)
    cases e2 : isV l (n + 1) 1 with
    | false =>
      rw [e2, if_neg (by simp)] at h2
      refine x.die [0] rfl trivial rfl h2 ⟨⟨rfl, rfl⟩, trivial⟩ rfl ⟨⟨rfl, veq0_d rfl, rfl, rfl, trivial⟩, trivial⟩ ?_
      simp only [releaseV, refV, oneV7, nmV, bnd, e1, e2,  if_true, Bool.false_eq_true, if_false]
      exact ⟨rfl, rfl⟩
    | true =>
      rw [e2, if_pos rfl] at h2
      have l2 := isV_lt e2
      refine x.call [0] rfl trivial rfl h2 rfl ⟨⟨rfl, rfl⟩, trivial⟩ ⟨⟨rfl, veq0_d rfl, rfl, rfl, trivial⟩, trivial⟩ ?_
      refine x.exit rfl trivial ?_
      simp only [releaseV, refV, oneV7, nmV, bnd, e1, e2,  if_true, Bool.false_eq_true, if_false]
      exact ⟨.inl rfl, trivial, ⟨⟨rfl, veq0_d rfl, rfl, rfl, trivial⟩, ⟨rfl, rfl, rfl, rfl, rfl, rfl, rfl, rfl, rfl, trivial⟩, ⟨rfl, rfl, rfl, fun j hj => by rw [show j = 0 by omega]; rfl⟩, ⟨rfl, rfl, rfl, fun _ _ => rfl⟩, trivial⟩, rfl⟩

abbrev HK (s : ByteArray) (l : List Tok) (n c : Nat) (x : Ins) (k : Int) : List Ch := [pC s l n c, iC x, strC x.args, strC x.frm, .box [.d (.int .u8 k)]]
def outK (s : ByteArray) (l : List Tok) (c : Nat) (k : Int) : Except (Int × Int) (Nat × Ins) → Out
  | .ok (n, x) => .ret (.tup []) (HK s l n c x k)
  | .error (a, e) => dieO a e
include hl hn in
theorem cell_spec (k : Int) : ProcO PG 102 2 [.ptr 0 0, .ptr 1 0, .ptr 4 0] (HK s l n c y k) (outK s l c k (cellV k s l n y)) := by
  have hll := hl.2.1
  refine ProcO.mk (cfgF 20 2) tysOK [0, 1, 5, 3, 4] Tryz.func102 rfl (by kernel_rfl) rfl rfl (by rcases cellV k s l n y with ⟨a, e⟩ | ⟨n', x'⟩ <;> rfl) ?_
  intro C x
  have h1 := name7_spec s l n c hl (by omega)
  cases e1 : isV l n 1 with
  | false =>
    rw [e1, if_neg (by simp)] at h1
    refine x.die [0] rfl trivial rfl h1 ⟨⟨rfl, rfl⟩, trivial⟩ rfl ⟨⟨rfl, veq0_d rfl, rfl, rfl, trivial⟩, trivial⟩ ?_
    simp only [cellV, refV, oneV7, nmV, bnd, e1,  if_true, Bool.false_eq_true, if_false]
    exact ⟨rfl, rfl⟩
  | true =>
    rw [e1, if_pos rfl] at h1
    have l1 := isV_lt e1
    refine x.call [0] rfl trivial rfl h1 rfl ⟨⟨rfl, rfl⟩, trivial⟩ ⟨⟨rfl, veq0_d rfl, rfl, rfl, trivial⟩, trivial⟩ ?_
    have h2 := name7_spec s l (n + 1) c hl (by omega)
    cases e2 : isV l (n + 1) 1 with
    | false =>
      rw [e2, if_neg (by simp)] at h2
      refine x.die [0] rfl trivial rfl h2 ⟨⟨rfl, rfl⟩, trivial⟩ rfl ⟨⟨rfl, veq0_d rfl, rfl, rfl, trivial⟩, trivial⟩ ?_
      simp only [cellV, refV, oneV7, nmV, bnd, e1, e2,  if_true, Bool.false_eq_true, if_false]
      exact ⟨rfl, rfl⟩
    | true =>
      rw [e2, if_pos rfl] at h2
      have l2 := isV_lt e2
      refine x.call [0] rfl trivial rfl h2 rfl ⟨⟨rfl, rfl⟩, trivial⟩ ⟨⟨rfl, veq0_d rfl, rfl, rfl, trivial⟩, trivial⟩ ?_
      refine x.exit rfl trivial ?_
      simp only [cellV, refV, oneV7, nmV, bnd, e1, e2,  if_true, Bool.false_eq_true, if_false]
      exact ⟨.inl rfl, trivial, ⟨⟨rfl, veq0_d rfl, rfl, rfl, trivial⟩, ⟨rfl, rfl, rfl, rfl, rfl, rfl, rfl, rfl, rfl, trivial⟩, ⟨rfl, rfl, rfl, fun j hj => by rw [show j = 0 by omega]; rfl⟩, ⟨rfl, rfl, rfl, fun _ _ => rfl⟩, ⟨rfl, trivial⟩, trivial⟩, rfl⟩

end
end Go.Proofs.YteeofakohenpoaaGreatDoor

/- The tables of words. -/
namespace Go.Proofs.YteeofakohenpoaaGreatDoor
open Go.Sx
set_option linter.unusedVariables false
set_option linter.unusedSimpArgs false
set_option maxRecDepth 100000

def actsT : List (Key × V) := [(.inl [115, 116, 111, 114, 101], .fn 94 []), (.inl [111, 117, 116, 112, 117, 116], .fn 95 []), (.inl [106, 117, 109, 112], .fn 96 []), (.inl [98, 114, 97, 110, 99, 104], .fn 97 []), (.inl [114, 101, 116, 117, 114, 110], .fn 98 [])]
theorem acts_spec : Pure PG 90 [] (.own 0) [.tbl actsT] := by
  refine Proc.mk (cfg 3) tysOK [0] Tryz.func90 rfl (by kernel_rfl) rfl rfl rfl ?_
  intro C x
  refine x.exit rfl ?_ ?_
  · simp only [AllP, newKey]
    decide
  · exact ⟨.inr rfl, rfl, ⟨⟨rfl, rfl, rfl, rfl, rfl, rfl, rfl, rfl, rfl, rfl, trivial⟩, trivial⟩, rfl⟩

/-- values$1: a function with its kind. -/
theorem cellf_spec (k : Int) : Pure PG 101 [.d (.int .u8 k)] (.fn 102 [.ptr 0 0]) [.box [.d (.int .u8 k)]] := by
  refine Proc.mk (cfg 4) tysOK [0] Tryz.func101 rfl (by kernel_rfl) rfl rfl rfl ?_
  intro C x
  refine x.exit rfl trivial ?_
  exact ⟨.inr rfl, rfl, ⟨⟨rfl, trivial⟩, trivial⟩, rfl⟩

def valsT : List (Key × V) := [(.inl [99, 111, 110, 115, 116], .fn 103 []), (.inl [108, 111, 97, 100], .fn 102 [.ptr 1 0]), (.inl [119, 114, 97, 112], .fn 102 [.ptr 2 0]), (.inl [105, 110, 112, 117, 116], .fn 104 []), (.inl [99, 97, 108, 108], .fn 105 []), (.inl [114, 101, 108, 101, 97, 115, 101], .fn 106 []), (.inl [112, 104, 105], .fn 107 [])]
theorem values_spec : Pure PG 100 [] (.own 0) [.tbl valsT, .box [.d (.int .u8 4)], .box [.d (.int .u8 5)]] := by
  refine Proc.mk (cfg 8) tysOK [0, 1, 2] Tryz.func100 rfl (by kernel_rfl) rfl rfl rfl ?_
  intro C x
  refine x.call [] rfl trivial rfl (cellf_spec 4) rfl ⟨rfl, trivial⟩ trivial ?_
  refine x.call [] rfl ?_ rfl (cellf_spec 5) rfl ⟨rfl, trivial⟩ trivial ?_
  · simp only [AllP, List.map, newKey]
    decide
  refine x.exit rfl ?_ ?_
  · simp only [AllP, List.map, newKey]
    decide
  · exact ⟨.inr rfl, rfl, ⟨⟨rfl, rfl, rfl, rfl, rfl, rfl, rfl, rfl, rfl, rfl, rfl, rfl, rfl, rfl, trivial⟩, ⟨rfl, trivial⟩, ⟨rfl, trivial⟩, trivial⟩, rfl⟩
end Go.Proofs.YteeofakohenpoaaGreatDoor

/- The numbers of operators. -/
namespace Go.Proofs.YteeofakohenpoaaGreatDoor
open Go.Sx
set_option linter.unusedVariables false
set_option linter.unusedSimpArgs false
set_option maxRecDepth 100000

theorem names_at : GlobAt PG.env 0 13 (fun j => .str (opAt j)) :=
  ⟨_, .tail _ (.tail _ (.head _)), fun j hj => rfl⟩
/-- The number of an operator's name; 0: none. -/
def opF (b : List UInt8) : Nat → Nat → Nat
  | 0, _ => 0
  | k + 1, i => if 0 < i ∧ opNames.getD i [] = b then i else opF b k (i + 1)
def opV (s : ByteArray) : Nat := opF s.data.toList 13 0
structure OW (s : ByteArray) where
  i : Nat
  hi : i ≤ 13
  same : opF s.data.toList (13 - i) i = opV s
theorem op_spec (s : ByteArray) : Pure PG 99 [vs s] (.tup [.d (.int .u8 (opV s : Int)), vb (decide (opV s ≠ 0))]) [] := by
  refine Proc.mk (cfg 20) tysOK [] Tryz.func99 rfl (by kernel_rfl) rfl rfl rfl ?_
  intro C x
  refine x.loop (α := OW s) (fun y => ⟨[(0, vs s), (5, vi (y.i : Int))], [], 0⟩) (fun y => 13 - y.i) ⟨0, by omega, rfl⟩ rfl trivial ⟨⟨rfl, rfl, trivial⟩, trivial, rfl⟩ (fun y => ?_)
  obtain ⟨i, hi, same⟩ := y
  change Go C _ ⟨[(0, vs s), (5, vi (i : Int))], [], 0⟩ _
  refine x.cond rfl trivial (fun h => ?_) (fun h => ?_)
  · have h : (i : Int) < 13 := of_decide_eq_true h
    refine x.globG (fun j => .str (opAt j)) rfl trivial rfl names_at (fun _ => ⟨Int.natCast_nonneg _, h⟩) ?_
    have hk : 13 - i = (12 - i) + 1 := by omega
    rw [hk, opF] at same
    have e0 : (opAt i).data.toList = opNames.getD i [] := rfl
    refine x.cond rfl trivial (fun h2 => ?_) (fun h2 => ?_)
    · have h2 : (decide ((0 : Int) < (i : Int)) && decide ((opAt (i : Int).toNat).data.toList = s.data.toList)) = true := h2
      simp only [Bool.and_eq_true, decide_eq_true_eq, Int.toNat_natCast, e0] at h2
      rw [if_pos ⟨by omega, h2.2⟩] at same
      refine x.exit rfl trivial ?_
      rw [← same]
      refine ⟨.inr rfl, ⟨?_, ?_, trivial⟩, trivial, rfl⟩
      · refine veq0_d ?_
        rw [IntKind.wrap_u8]
        congr 1
        omega
      · show VEq0 (vb true) (vb (decide (i ≠ 0)))
        rw [decide_eq_true (by omega)]; rfl
    · have h2 : (decide ((0 : Int) < (i : Int)) && decide ((opAt (i : Int).toNat).data.toList = s.data.toList)) = false := h2
      rw [Int.toNat_natCast, e0] at h2
      rw [if_neg (fun hh => by
        rw [decide_eq_true (by omega : (0 : Int) < (i : Int)), decide_eq_true hh.2] at h2
        cases h2)] at same
      refine x.back rfl ?_ ⟨⟨i + 1, by omega, by rw [show 13 - (i + 1) = 12 - i by omega]; exact same⟩, by show 13 - (i + 1) < 13 - i; omega, ⟨rfl, ?_, trivial⟩, trivial, rfl⟩
      · simp only [AllP, inI64]; omega
      · show VEq0 (vi ((i : Int) + 1)) (vi ((i + 1 : Nat) : Int)); rw [Int.natCast_add]; rfl
  · have h : ¬ (i : Int) < 13 := of_decide_eq_false h
    have : i = 13 := by omega
    subst this
    refine x.exit rfl trivial ?_
    rw [← same]
    exact ⟨.inr rfl, ⟨rfl, rfl, trivial⟩, trivial, rfl⟩
end Go.Proofs.YteeofakohenpoaaGreatDoor

/- Arrays, as the program reads them. -/
namespace Go.Proofs.YteeofakohenpoaaGreatDoor
open Go.Sx
set_option linter.unusedVariables false
set_option linter.unusedSimpArgs false
set_option maxRecDepth 100000

structure Arr where
  name : ByteArray
  size : Int
  level : ByteArray
  at_ : Int
abbrev aV (x : Arr) : V := .agg [vs x.name, vi x.size, vs x.level, vi x.at_]
/-- An array, from the word array on. -/
def arrV (s : ByteArray) (l : List Tok) (n : Nat) : Except (Int × Int) (Nat × Arr) :=
  bnd (nmV s l (n + 1)) fun n1 name =>
    if isV l n1 3 = true then
      if (numV (txV s l n1)).1 < 1 ∨ 256 < (numV (txV s l n1)).1 then .error (atV s l n1, 12)
      else bnd (nmV s l (n1 + 1)) fun n2 lv => .ok (n2, ⟨name, (numV (txV s l n1)).1, lv, atV s l n⟩)
    else .error (atV s l n1, 7)
def arrO (s : ByteArray) (l : List Tok) (c : Nat) : Except (Int × Int) (Nat × Arr) → Out
  | .ok (n, x) => .ret (aV x) [pC s l n c]
  | .error (a, e) => dieO a e

section
variable (s : ByteArray) (l : List Tok) (n c : Nat) (hl : Lies s l) (hn : n < l.length)
include hl hn in
theorem array7_spec : ProcO PG 46 1 [.ptr 0 0] [pC s l n c] (arrO s l c (arrV s l n)) := by
  have hll := hl.2.1
  refine ProcO.mk (cfgF 42 1) tysOK [0] Tryz.func46 rfl (by kernel_rfl) rfl rfl (by rcases arrV s l n with ⟨a, e⟩ | ⟨n', x'⟩ <;> rfl) ?_
  intro C x
  refine x.call [0] rfl trivial rfl (at_spec s l n c (by omega)) rfl ⟨⟨rfl, rfl⟩, trivial⟩ ⟨⟨rfl, veq0_d rfl, rfl, rfl, trivial⟩, trivial⟩ ?_
  have ei : VEq0 (vi ((n : Int) + 1)) (vi ((n + 1 : Nat) : Int)) := by rw [Int.natCast_add]; rfl
  have h1 := name7_spec s l (n + 1) c hl (by omega)
  cases e1 : isV l (n + 1) 1 with
  | false =>
    rw [e1, if_neg (by simp)] at h1
    refine x.die [0] rfl (by simp only [AllP, inI64]; omega) rfl h1 ⟨⟨rfl, rfl⟩, trivial⟩ rfl ⟨⟨rfl, veq0_d rfl, ei, rfl, trivial⟩, trivial⟩ ?_
    simp only [arrV, nmV, bnd, e1, if_true, Bool.false_eq_true, if_false]
    exact ⟨rfl, rfl⟩
  | true =>
    rw [e1, if_pos rfl] at h1
    have l1 := isV_lt e1
    refine x.call [0] rfl (by simp only [AllP, inI64]; omega) rfl h1 rfl ⟨⟨rfl, rfl⟩, trivial⟩ ⟨⟨rfl, veq0_d rfl, ei, rfl, trivial⟩, trivial⟩ ?_
    refine x.call [0] rfl trivial rfl (is_spec s l (n + 1 + 1) c 3) rfl ⟨⟨rfl, rfl⟩, rfl, trivial⟩ ⟨⟨rfl, veq0_d rfl, rfl, rfl, trivial⟩, trivial⟩ ?_
    have h2 := number7_spec s l (n + 1 + 1) c hl (by omega)
    refine x.cond rfl trivial (fun e2 => ?_) (fun e2 => ?_)
    · have e2 : isV l (n + 1 + 1) 3 = true := e2
      have l2 := isV_lt e2
      rw [e2, if_pos rfl] at h2
      refine x.call [0] rfl trivial rfl (text_spec s l (n + 1 + 1) c hl (by omega) 0 (by omega)) rfl ⟨⟨rfl, rfl⟩, rfl, trivial⟩ ⟨⟨rfl, veq0_d rfl, rfl, rfl, trivial⟩, trivial⟩ ?_
      refine x.pure rfl trivial rfl (number_spec (txV s l (n + 1 + 1))) ⟨rfl, trivial⟩ ?_
      refine x.cond rfl trivial (fun e3 => ?_) (fun e3 => ?_)
      · have e3 : (decide ((numV (txV s l (n + 1 + 1))).1 < 1) || decide (256 < (numV (txV s l (n + 1 + 1))).1)) = true := e3
        simp only [Bool.or_eq_true, decide_eq_true_eq] at e3
        refine x.die [0] rfl trivial rfl (fail_spec s l (n + 1 + 1) c (by omega) 12) ⟨⟨rfl, rfl⟩, rfl, trivial⟩ rfl ⟨⟨rfl, veq0_d rfl, rfl, rfl, trivial⟩, trivial⟩ ?_
        simp only [arrV, nmV, bnd, e1, e2, if_true]
        rw [if_pos e3]
        exact ⟨rfl, rfl⟩
      · have e3 : (decide ((numV (txV s l (n + 1 + 1))).1 < 1) || decide (256 < (numV (txV s l (n + 1 + 1))).1)) = false := e3
        have e3' : ¬ ((numV (txV s l (n + 1 + 1))).1 < 1 ∨ 256 < (numV (txV s l (n + 1 + 1))).1) := by simpa using e3
        refine x.call [0] rfl trivial rfl h2 rfl ⟨⟨rfl, rfl⟩, trivial⟩ ⟨⟨rfl, veq0_d rfl, rfl, rfl, trivial⟩, trivial⟩ ?_
        have h4 := name7_spec s l (n + 1 + 1 + 1) c hl (by omega)
        cases e4 : isV l (n + 1 + 1 + 1) 1 with
        | false =>
          rw [e4, if_neg (by simp)] at h4
          refine x.die [0] rfl trivial rfl h4 ⟨⟨rfl, rfl⟩, trivial⟩ rfl ⟨⟨rfl, veq0_d rfl, rfl, rfl, trivial⟩, trivial⟩ ?_
          simp only [arrV, nmV, bnd, e1, e2, e4, if_true, Bool.false_eq_true, if_false]
          rw [if_neg e3']
          exact ⟨rfl, rfl⟩
        | true =>
          rw [e4, if_pos rfl] at h4
          refine x.call [0] rfl trivial rfl h4 rfl ⟨⟨rfl, rfl⟩, trivial⟩ ⟨⟨rfl, veq0_d rfl, rfl, rfl, trivial⟩, trivial⟩ ?_
          refine x.exit rfl trivial ?_
          simp only [arrV, nmV, bnd, e1, e2, e4, if_true]
          rw [if_neg e3']
          exact ⟨.inr rfl, ⟨rfl, rfl, rfl, rfl, trivial⟩, ⟨⟨rfl, veq0_d rfl, rfl, rfl, trivial⟩, trivial⟩, rfl⟩
    · have e2 : isV l (n + 1 + 1) 3 = false := e2
      rw [e2, if_neg (by simp)] at h2
      refine x.die [0] rfl trivial rfl h2 ⟨⟨rfl, rfl⟩, trivial⟩ rfl ⟨⟨rfl, veq0_d rfl, rfl, rfl, trivial⟩, trivial⟩ ?_
      simp only [arrV, nmV, bnd, e1, e2, if_true, Bool.false_eq_true, if_false]
      exact ⟨rfl, rfl⟩
end
end Go.Proofs.YteeofakohenpoaaGreatDoor

/- phi, as the program reads it. -/
namespace Go.Proofs.YteeofakohenpoaaGreatDoor
open Go.Sx
set_option linter.unusedVariables false
set_option linter.unusedSimpArgs false
set_option maxRecDepth 100000

abbrev iC4 (x : Ins) : Ch := .box [.d (.int .u8 x.kind), .d (.int .u8 x.op), vs x.dst, vs x.ref, vs x.alt, .own 4, .own 5, vi x.num, vi x.at_]
abbrev HP4 (s : ByteArray) (l : List Tok) (n c : Nat) (x : Ins) : List Ch := [pC s l n c, iC4 x, .box [.ptr 1 0], .box [.ptr 0 0], strC x.args, strC x.frm]
/-- A token of that text. -/
def needV (s : ByteArray) (l : List Tok) (n : Nat) (b : UInt8) : Except (Int × Int) (Nat × Unit) := if (txV s l n).data.toList = [b] then .ok (n + 1, ()) else .error (atV s l n, 7)
/-- A pair of a phi. -/
def pairV (s : ByteArray) (l : List Tok) (n : Nat) (x : Ins) : Except (Int × Int) (Nat × Ins) :=
  bnd (nmV s l n) fun n f => bnd (needV s l n 58) fun n _ => bnd (nmV s l n) fun n a => .ok (n, { x with frm := x.frm ++ [f], args := x.args ++ [a] })
def outP (s : ByteArray) (l : List Tok) (c : Nat) : Except (Int × Int) (Nat × Ins) → Out
  | .ok (n, x) => .ret (.tup []) (HP4 s l n c x)
  | .error (a, e) => dieO a e
section
variable (s : ByteArray) (l : List Tok) (n c : Nat) (hl : Lies s l) (hn : n ≤ l.length) (y : Ins) (hy : y.args.length ≤ 1000) (hy2 : y.frm.length ≤ 1000)
include hl hn hy hy2 in
theorem pair_spec : ProcO PG 108 4 [.ptr 2 0, .ptr 3 0] (HP4 s l n c y) (outP s l c (pairV s l n y)) := by
  have hll := hl.2.1
  refine ProcO.mk (cfgF 26 4) tysOK [0, 1, 2, 3, 4, 5] Tryz.func108 rfl (by kernel_rfl) rfl rfl (by rcases pairV s l n y with ⟨a, e⟩ | ⟨n', x'⟩ <;> rfl) ?_
  intro C x
  have h1 := name7_spec s l n c hl (by omega)
  cases e1 : isV l n 1 with
  | false =>
    rw [e1, if_neg (by simp)] at h1
    refine x.draw2 [0, 1, 4, 5] 4 [0, 5] [0] [1, 2, 3, 4, 5] [6, 7] [8, 9, 10, 11] rfl trivial mixedP (by kernel_rfl) RetO.quiet rfl rfl trivial rfl trivial (fun C1 C2 x1 x2 => ?_)
    refine x1.die [0] rfl trivial rfl h1 ⟨⟨rfl, rfl⟩, trivial⟩ rfl ⟨⟨rfl, veq0_d rfl, rfl, rfl, trivial⟩, trivial⟩ ⟨⟨_, rfl⟩, rfl, ⟨_, rfl⟩, rfl, ?_⟩
    simp only [pairV, nmV, bnd, e1, if_true, Bool.false_eq_true, if_false]
    exact ⟨rfl, rfl⟩
  | true =>
    rw [e1, if_pos rfl] at h1
    have l1 := isV_lt e1
    refine x.draw2 [0, 1, 4, 5] 4 [0, 5] [0] [1, 2, 3, 4, 5] [6, 7] [8, 9, 10, 11] rfl trivial mixedP (by kernel_rfl) RetO.quiet rfl rfl trivial rfl trivial (fun C1 C2 x1 x2 => ?_)
    refine x1.call [0] rfl trivial rfl h1 rfl ⟨⟨rfl, rfl⟩, trivial⟩ ⟨⟨rfl, veq0_d rfl, rfl, rfl, trivial⟩, trivial⟩ ?_
    refine x1.back rfl trivial ?_
    refine x1.back rfl trivial ?_
    refine x2.back rfl (by simp only [AllP, big]; omega) ?_
    refine x2.back rfl trivial ?_
    refine x2.back rfl trivial ?_
    refine x2.back rfl trivial ?_
    have h2 := need_spec s l (n + 1) c hl (by omega) ⟨#[58]⟩
    by_cases e2 : (txV s l (n + 1)).data.toList = [58]
    · rw [if_pos e2] at h2
      have l2 := tx_lt e2
      refine x.call [0] rfl trivial rfl h2 rfl ⟨⟨rfl, rfl⟩, rfl, trivial⟩ ⟨⟨rfl, veq0_d rfl, rfl, rfl, trivial⟩, trivial⟩ ?_
      have h3 := name7_spec s l (n + 1 + 1) c hl (by omega)
      cases e3 : isV l (n + 1 + 1) 1 with
      | false =>
        rw [e3, if_neg (by simp)] at h3
        refine x.draw2 [0, 1, 4, 5, 6] 4 [0] [0] [1, 2, 3, 4, 5] [6, 7] [8, 9, 10, 11] rfl trivial mixedP (by kernel_rfl) RetO.quiet rfl rfl trivial rfl trivial (fun C1 C2 x1 x2 => ?_)
        refine x1.die [0] rfl trivial rfl h3 ⟨⟨rfl, rfl⟩, trivial⟩ rfl ⟨⟨rfl, veq0_d rfl, rfl, rfl, trivial⟩, trivial⟩ ⟨⟨_, rfl⟩, rfl, ⟨_, rfl⟩, rfl, ?_⟩
        simp only [pairV, needV, nmV, bnd, e1, e2, e3, if_true, Bool.false_eq_true, if_false]
        exact ⟨rfl, rfl⟩
      | true =>
        rw [e3, if_pos rfl] at h3
        refine x.draw2 [0, 1, 4, 5, 6] 4 [0] [0] [1, 2, 3, 4, 5] [6, 7] [8, 9, 10, 11] rfl trivial mixedP (by kernel_rfl) RetO.quiet rfl rfl trivial rfl trivial (fun C1 C2 x1 x2 => ?_)
        refine x1.call [0] rfl trivial rfl h3 rfl ⟨⟨rfl, rfl⟩, trivial⟩ ⟨⟨rfl, veq0_d rfl, rfl, rfl, trivial⟩, trivial⟩ ?_
        refine x1.back rfl trivial ?_
        refine x1.back rfl trivial ?_
        refine x2.back rfl (by simp only [AllP, big]; omega) ?_
        refine x2.back rfl trivial ?_
        refine x2.back rfl trivial ?_
        refine x2.back rfl trivial ?_
        refine x.exit rfl trivial ?_
        simp only [pairV, needV, nmV, bnd, e1, e2, e3, if_true]
        exact ⟨.inl rfl, trivial, ⟨⟨rfl, veq0_d rfl, rfl, rfl, trivial⟩, ⟨rfl, rfl, rfl, rfl, rfl, rfl, rfl, rfl, rfl, trivial⟩, ⟨⟨rfl, rfl⟩, trivial⟩, ⟨⟨rfl, rfl⟩, trivial⟩, ⟨rfl, rfl, len1 _ _, fun j hj => app_str _ _ j hj⟩, ⟨rfl, rfl, len1 _ _, fun j hj => app_str _ _ j hj⟩, trivial⟩, rfl⟩
    · rw [if_neg e2] at h2
      refine x.die [0] rfl trivial rfl h2 ⟨⟨rfl, rfl⟩, rfl, trivial⟩ rfl ⟨⟨rfl, veq0_d rfl, rfl, rfl, trivial⟩, trivial⟩ ?_
      simp only [pairV, needV, nmV, bnd, e1, e2, if_true, if_false]
      exact ⟨rfl, rfl⟩
end

theorem pairV_ok {s : ByteArray} {l : List Tok} {n : Nat} {x : Ins} {n' : Nat} {x' : Ins} (h : pairV s l n x = .ok (n', x')) : n < n' ∧ n' ≤ l.length ∧ isV l n 1 = true ∧ x'.args.length = x.args.length + 1 ∧ x'.frm.length = x.frm.length + 1 := by
  unfold pairV nmV needV at h
  by_cases e1 : isV l n 1 = true
  · simp only [e1, if_true, bnd] at h
    by_cases e2 : (txV s l (n + 1)).data.toList = [58]
    · simp only [e2, if_true] at h
      by_cases e3 : isV l (n + 1 + 1) 1 = true
      · simp only [e3, if_true, Except.ok.injEq, Prod.mk.injEq] at h
        obtain ⟨rfl, rfl⟩ := h
        have := isV_lt e3
        exact ⟨by omega, by omega, e1, by simp, by simp⟩
      · simp [e3] at h
    · simp [e2] at h
  · simp [e1, bnd] at h
def pairsF (s : ByteArray) (l : List Tok) : Nat → Nat → Nat → Ins → Except (Int × Int) (Nat × Ins)
  | 0, _, _, _ => .error (0, 0)
  | f + 1, n, k, x =>
    if isV l n 1 = true ∧ 64 ≤ k then .error (atV s l n, 3)
    else bnd (pairV s l n x) fun n x => if (txV s l n).data.toList = [44] then pairsF s l f (n + 1) (k + 1) x else .ok (n, x)
structure PW (s : ByteArray) (l : List Tok) (R : Except (Int × Int) (Nat × Ins)) where
  f : Nat
  n : Nat
  k : Nat
  x : Ins
  hf : l.length + 1 ≤ f + n
  hn : n ≤ l.length
  hk : k ≤ 64
  ha : x.args.length ≤ 100 + k
  hb : x.frm.length ≤ 100 + k
  same : pairsF s l f n k x = R
section
variable (s : ByteArray) (l : List Tok) (n c : Nat) (hl : Lies s l) (hn : n ≤ l.length) (y : Ins) (hy : y.args.length ≤ 100) (hy2 : y.frm.length ≤ 100)
include hl hn hy hy2 in
theorem list_pairs : ProcO PG 84 4 [.ptr 0 0, vi 64, .fn 108 [.ptr 2 0, .ptr 3 0]] (HP4 s l n c y) (outP s l c (pairsF s l (l.length + 1) n 0 y)) := by
  obtain ⟨R, hR⟩ : ∃ R, pairsF s l (l.length + 1) n 0 y = R := ⟨_, rfl⟩
  rw [hR]
  have hll := hl.2.1
  refine ProcO.mk (cfgF 27 4) tysOK [0, 1, 2, 3, 4, 5] Tryz.func84 rfl (by kernel_rfl) rfl rfl (by rcases R with ⟨a, e⟩ | ⟨n, o⟩ <;> rfl) ?_
  intro C x
  refine x.loop (α := PW s l R) (fun y => ⟨[(0, .ptr 0 0), (1, vi 64), (2, .fn 108 [.ptr 2 0, .ptr 3 0]), (6, vi (y.k : Int))], [(0, pC s l y.n c), (1, iC4 y.x), (2, .box [.ptr 1 0]), (3, .box [.ptr 0 0]), (4, strC y.x.args), (5, strC y.x.frm)], 6⟩) (fun y => y.f) ⟨l.length + 1, n, 0, y, by omega, by omega, by omega, by omega, by omega, hR⟩ rfl trivial ⟨⟨⟨rfl, rfl⟩, rfl, rfl, rfl, trivial⟩, ⟨⟨rfl, veq0_d rfl, rfl, rfl, trivial⟩, ⟨rfl, rfl, rfl, rfl, rfl, rfl, rfl, rfl, rfl, trivial⟩, ⟨⟨rfl, rfl⟩, trivial⟩, ⟨⟨rfl, rfl⟩, trivial⟩, ⟨rfl, rfl, rfl, fun _ _ => rfl⟩, ⟨rfl, rfl, rfl, fun _ _ => rfl⟩, trivial⟩, rfl⟩ (fun y => ?_)
  obtain ⟨f, n, k, y, hf, hn, hk, ha, hb, same⟩ := y
  change Go C _ ⟨[(0, .ptr 0 0), (1, vi 64), (2, .fn 108 [.ptr 2 0, .ptr 3 0]), (6, vi (k : Int))], [(0, pC s l n c), (1, iC4 y), (2, .box [.ptr 1 0]), (3, .box [.ptr 0 0]), (4, strC y.args), (5, strC y.frm)], 6⟩ _
  obtain ⟨f, rfl⟩ : ∃ f', f = f' + 1 := ⟨f - 1, by omega⟩
  rw [pairsF] at same
  refine x.call [0] rfl trivial rfl (is_spec s l n c 1) rfl ⟨⟨rfl, rfl⟩, rfl, trivial⟩ ⟨⟨rfl, veq0_d rfl, rfl, rfl, trivial⟩, trivial⟩ ?_
  have h1 := pair_spec s l n c hl hn y (by omega) (by omega)
  obtain ⟨V, hV⟩ : ∃ V, pairV s l n y = V := ⟨_, rfl⟩
  have bad : isV l n 1 = false → V = .error (atV s l n, 7) := fun e => by rw [← hV, pairV, nmV, e]; rfl
  rw [hV] at h1 same
  refine x.cond rfl trivial (fun h => ?_) (fun h => ?_)
  · have h : isV l n 1 = true := h
    have h2 := room_spec s l n c (by omega) (k : Int) 64
    by_cases h3 : 64 ≤ k
    · rw [if_pos ⟨h, h3⟩] at same
      rw [if_pos (by omega)] at h2
      exact x.die [0] rfl trivial rfl h2 ⟨⟨rfl, rfl⟩, rfl, rfl, trivial⟩ rfl ⟨⟨rfl, veq0_d rfl, rfl, rfl, trivial⟩, trivial⟩ (by rw [← same]; exact ⟨rfl, rfl⟩)
    · rw [if_neg (fun hh => h3 hh.2)] at same
      rw [if_neg (by omega)] at h2
      refine x.call [0] rfl trivial rfl h2 rfl ⟨⟨rfl, rfl⟩, rfl, rfl, trivial⟩ ⟨⟨rfl, veq0_d rfl, rfl, rfl, trivial⟩, trivial⟩ ?_
      rcases V with ⟨a, e⟩ | ⟨n', y'⟩
      · exact x.die [0, 1, 2, 3, 4, 5] rfl trivial rfl h1 ⟨⟨rfl, rfl⟩, ⟨rfl, rfl⟩, trivial⟩ rfl ⟨⟨rfl, veq0_d rfl, rfl, rfl, trivial⟩, ⟨rfl, rfl, rfl, rfl, rfl, rfl, rfl, rfl, rfl, trivial⟩, ⟨⟨rfl, rfl⟩, trivial⟩, ⟨⟨rfl, rfl⟩, trivial⟩, ⟨rfl, rfl, rfl, fun _ _ => rfl⟩, ⟨rfl, rfl, rfl, fun _ _ => rfl⟩, trivial⟩ (by rw [← same]; exact ⟨rfl, rfl⟩)
      · obtain ⟨p1, p2, _, p4, p5⟩ := pairV_ok hV
        simp only [bnd] at same
        refine x.call [0, 1, 2, 3, 4, 5] rfl trivial rfl h1 rfl ⟨⟨rfl, rfl⟩, ⟨rfl, rfl⟩, trivial⟩ ⟨⟨rfl, veq0_d rfl, rfl, rfl, trivial⟩, ⟨rfl, rfl, rfl, rfl, rfl, rfl, rfl, rfl, rfl, trivial⟩, ⟨⟨rfl, rfl⟩, trivial⟩, ⟨⟨rfl, rfl⟩, trivial⟩, ⟨rfl, rfl, rfl, fun _ _ => rfl⟩, ⟨rfl, rfl, rfl, fun _ _ => rfl⟩, trivial⟩ ?_
        refine x.call [0] rfl trivial rfl (text_spec s l n' c hl (by omega) 0 (by omega)) rfl ⟨⟨rfl, rfl⟩, rfl, trivial⟩ ⟨⟨rfl, veq0_d rfl, rfl, rfl, trivial⟩, trivial⟩ ?_
        refine x.cond rfl trivial (fun h4 => ?_) (fun h4 => ?_)
        · have h4 : (!decide ((txV s l n').data.toList = [44])) = true := h4
          rw [if_neg (by simpa using h4)] at same
          refine x.exit rfl trivial ?_
          rw [← same]
          exact ⟨.inr rfl, trivial, ⟨⟨rfl, veq0_d rfl, rfl, rfl, trivial⟩, ⟨rfl, rfl, rfl, rfl, rfl, rfl, rfl, rfl, rfl, trivial⟩, ⟨⟨rfl, rfl⟩, trivial⟩, ⟨⟨rfl, rfl⟩, trivial⟩, ⟨rfl, rfl, rfl, fun _ _ => rfl⟩, ⟨rfl, rfl, rfl, fun _ _ => rfl⟩, trivial⟩, rfl⟩
        · have h4 : (!decide ((txV s l n').data.toList = [44])) = false := h4
          have h5 : (txV s l n').data.toList = [44] := by simpa using h4
          have h6 := tx_lt h5
          rw [if_pos h5] at same
          refine x.back rfl ?_ ⟨⟨f, n' + 1, k + 1, y', by omega, by omega, by omega, by omega, by omega, same⟩, by show f < f + 1; omega, ⟨⟨rfl, rfl⟩, rfl, rfl, ?_, trivial⟩, ⟨⟨rfl, veq0_d rfl, ?_, rfl, trivial⟩, ⟨rfl, rfl, rfl, rfl, rfl, rfl, rfl, rfl, rfl, trivial⟩, ⟨⟨rfl, rfl⟩, trivial⟩, ⟨⟨rfl, rfl⟩, trivial⟩, ⟨rfl, rfl, rfl, fun _ _ => rfl⟩, ⟨rfl, rfl, rfl, fun _ _ => rfl⟩, trivial⟩, rfl⟩
          · simp only [AllP, inI64]; omega
          · show VEq0 (vi ((k : Int) + 1)) (vi ((k + 1 : Nat) : Int)); rw [Int.natCast_add]; rfl
          · show VEq0 (vi ((n' : Int) + 1)) (vi ((n' + 1 : Nat) : Int)); rw [Int.natCast_add]; rfl
  · have h : isV l n 1 = false := h
    have hb := bad h
    subst hb
    rw [if_neg (fun hh => by rw [h] at hh; exact absurd hh.1 (by simp))] at same
    exact x.die [0, 1, 2, 3, 4, 5] rfl trivial rfl h1 ⟨⟨rfl, rfl⟩, ⟨rfl, rfl⟩, trivial⟩ rfl ⟨⟨rfl, veq0_d rfl, rfl, rfl, trivial⟩, ⟨rfl, rfl, rfl, rfl, rfl, rfl, rfl, rfl, rfl, trivial⟩, ⟨⟨rfl, rfl⟩, trivial⟩, ⟨⟨rfl, rfl⟩, trivial⟩, ⟨rfl, rfl, rfl, fun _ _ => rfl⟩, ⟨rfl, rfl, rfl, fun _ _ => rfl⟩, trivial⟩ (by rw [← same]; exact ⟨rfl, rfl⟩)
end

theorem pairsF_ok {s : ByteArray} {l : List Tok} : ∀ {f n k : Nat} {x : Ins} {n' : Nat} {x' : Ins}, pairsF s l f n k x = .ok (n', x') → n < n' ∧ n' ≤ l.length
  | 0, n, k, x, n', x', h => by simp [pairsF] at h
  | f + 1, n, k, x, n', x', h => by
    rw [pairsF] at h
    split at h
    · cases h
    · obtain ⟨V, hV⟩ : ∃ V, pairV s l n x = V := ⟨_, rfl⟩
      rw [hV] at h
      rcases V with ⟨a, e⟩ | ⟨n1, x1⟩
      · cases h
      · obtain ⟨p1, p2, _⟩ := pairV_ok hV
        simp only [bnd] at h
        split at h
        · obtain ⟨q1, q2⟩ := pairsF_ok h
          exact ⟨by omega, q2⟩
        · simp only [Except.ok.injEq, Prod.mk.injEq] at h
          obtain ⟨rfl, rfl⟩ := h
          exact ⟨p1, p2⟩
/-- phi. -/
def phiV (s : ByteArray) (l : List Tok) (n : Nat) (x : Ins) : Except (Int × Int) (Nat × Ins) :=
  bnd (needV s l n 91) fun n _ => closeV s l 93 (pairsF s l (l.length + 1) n 0 { x with kind := 3 })
section
variable (s : ByteArray) (l : List Tok) (n c : Nat) (hl : Lies s l) (hn : n ≤ l.length) (y : Ins) (hy : y.args.length ≤ 100) (hy2 : y.frm.length ≤ 100)
include hl hn hy hy2 in
theorem val6_spec : ProcO PG 107 2 [.ptr 0 0, .ptr 1 0] (HX s l n c y) (outI s l c (phiV s l n y)) := by
  have hll := hl.2.1
  refine ProcO.mk (cfgF 14 2) tysOK [0, 1, 2, 3] Tryz.func107 rfl (by kernel_rfl) rfl rfl (okI (by omega) _) ?_
  intro C x
  have h1 := need_spec s l n c hl (by omega) ⟨#[91]⟩
  by_cases e1 : (txV s l n).data.toList = [91]
  · rw [if_pos e1] at h1
    have l1 := tx_lt e1
    refine x.call [0] rfl trivial rfl h1 rfl ⟨⟨rfl, rfl⟩, rfl, trivial⟩ ⟨⟨rfl, veq0_d rfl, rfl, rfl, trivial⟩, trivial⟩ ?_
    have h2 := list_pairs s l (n + 1) c hl (by omega) { y with kind := 3 } hy hy2
    obtain ⟨R, hR⟩ : ∃ R, pairsF s l (l.length + 1) (n + 1) 0 { y with kind := 3 } = R := ⟨_, rfl⟩
    have hV : phiV s l n y = closeV s l 93 R := by rw [phiV, needV, if_pos e1, bnd, hR]
    rw [hR] at h2
    rcases R with ⟨a, e⟩ | ⟨n', y'⟩
    · refine x.die [0, 1, 5, 4, 2, 3] rfl trivial rfl h2 ⟨⟨rfl, rfl⟩, rfl, rfl, trivial⟩ rfl ⟨⟨rfl, veq0_d rfl, rfl, rfl, trivial⟩, ⟨rfl, rfl, rfl, rfl, rfl, rfl, rfl, rfl, rfl, trivial⟩, ⟨⟨rfl, rfl⟩, trivial⟩, ⟨⟨rfl, rfl⟩, trivial⟩, ⟨rfl, rfl, rfl, fun _ _ => rfl⟩, ⟨rfl, rfl, rfl, fun _ _ => rfl⟩, trivial⟩ ?_
      rw [hV]
      exact ⟨rfl, rfl⟩
    · obtain ⟨q1, q2⟩ := pairsF_ok hR
      refine x.call [0, 1, 5, 4, 2, 3] rfl trivial rfl h2 rfl ⟨⟨rfl, rfl⟩, rfl, rfl, trivial⟩ ⟨⟨rfl, veq0_d rfl, rfl, rfl, trivial⟩, ⟨rfl, rfl, rfl, rfl, rfl, rfl, rfl, rfl, rfl, trivial⟩, ⟨⟨rfl, rfl⟩, trivial⟩, ⟨⟨rfl, rfl⟩, trivial⟩, ⟨rfl, rfl, rfl, fun _ _ => rfl⟩, ⟨rfl, rfl, rfl, fun _ _ => rfl⟩, trivial⟩ ?_
      have h3 := need_spec s l n' c hl (by omega) ⟨#[93]⟩
      by_cases e3 : (txV s l n').data.toList = [93]
      · rw [if_pos e3] at h3
        refine x.call [0] rfl trivial rfl h3 rfl ⟨⟨rfl, rfl⟩, rfl, trivial⟩ ⟨⟨rfl, veq0_d rfl, rfl, rfl, trivial⟩, trivial⟩ ?_
        refine x.exit rfl trivial ?_
        rw [hV, closeV, if_pos e3]
        exact ⟨.inl rfl, trivial, ⟨⟨rfl, veq0_d rfl, rfl, rfl, trivial⟩, ⟨rfl, rfl, rfl, rfl, rfl, rfl, rfl, rfl, rfl, trivial⟩, ⟨rfl, rfl, rfl, fun _ _ => rfl⟩, ⟨rfl, rfl, rfl, fun _ _ => rfl⟩, trivial⟩, rfl⟩
      · rw [if_neg e3] at h3
        refine x.die [0] rfl trivial rfl h3 ⟨⟨rfl, rfl⟩, rfl, trivial⟩ rfl ⟨⟨rfl, veq0_d rfl, rfl, rfl, trivial⟩, trivial⟩ ?_
        rw [hV, closeV, if_neg e3]
        exact ⟨rfl, rfl⟩
  · rw [if_neg e1] at h1
    refine x.die [0] rfl trivial rfl h1 ⟨⟨rfl, rfl⟩, rfl, trivial⟩ rfl ⟨⟨rfl, veq0_d rfl, rfl, rfl, trivial⟩, trivial⟩ ?_
    rw [phiV, needV, if_neg e1, bnd]
    exact ⟨rfl, rfl⟩
end
end Go.Proofs.YteeofakohenpoaaGreatDoor
