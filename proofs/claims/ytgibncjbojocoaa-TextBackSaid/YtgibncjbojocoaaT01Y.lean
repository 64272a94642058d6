/- Numbers: both answer alike; what is written is read. The laws. -/
import Derived.Test.YtgibncjbojocoaaT01X
namespace Go.Proofs.Ytgibncjbojocoaa
open Go.Sx
set_option linter.unusedVariables false
set_option linter.unusedSimpArgs false
set_option maxRecDepth 100000

def dvl : List UInt8 → Nat → Option Nat
  | [], u => some u
  | c :: r, u => if 48 ≤ c.toNat ∧ c.toNat ≤ 57 then dvl r (10 * u + (c.toNat - 48)) else none

theorem len_size (s : ByteArray) : s.data.toList.length = s.size := Array.length_toList
theorem bt_list (s : ByteArray) (i : Nat) (h : i < s.size) : ∃ c, s.data.toList[i]? = some c ∧ bt s i = c.toNat := by
  have h' : i < s.data.size := h
  refine ⟨s.data[i], by simp [h'], ?_⟩
  unfold bt
  cases s with
  | mk d => show d[i]!.toNat = _; rw [getElem!_pos d i h']

theorem dv_list (s : ByteArray) : ∀ (n i u : Nat), s.size ≤ i + n → dv s n i u = dvl (s.data.toList.drop i) u
  | 0, i, u, h => by
    rw [dv, List.drop_eq_nil_of_le (by rw [len_size]; omega)]
    rfl
  | n + 1, i, u, h => by
    rw [dv]
    by_cases hi : i < s.size
    · obtain ⟨c, hc, hb⟩ := bt_list s i hi
      have hl : i < s.data.toList.length := (List.getElem?_eq_some_iff.1 hc).1
      rw [if_pos hi, List.drop_eq_getElem_cons hl, (List.getElem?_eq_some_iff.1 hc).2, dvl, hb, dv_list s n (i + 1) _ (by omega)]
    · rw [if_neg hi, List.drop_eq_nil_of_le (by rw [len_size]; omega)]
      rfl

theorem dvl_app : ∀ (l : List UInt8) (c : UInt8) (u : Nat), dvl (l ++ [c]) u = (dvl l u).bind fun v => if 48 ≤ c.toNat ∧ c.toNat ≤ 57 then some (10 * v + (c.toNat - 48)) else none
  | [], c, u => rfl
  | x :: l, c, u => by
    rw [List.cons_append, dvl, dvl]
    split
    · exact dvl_app l c _
    · rfl

theorem dvl_lt : ∀ (l : List UInt8) (u v : Nat), dvl l u = some v → v < (u + 1) * 10 ^ l.length
  | [], u, v, h => by simp [dvl] at h; simp; omega
  | c :: l, u, v, h => by
    rw [dvl] at h
    split at h
    · have := dvl_lt l _ _ h
      rw [List.length_cons, Nat.pow_succ, Nat.mul_comm _ 10, ← Nat.mul_assoc]
      refine Nat.lt_of_lt_of_le this (Nat.mul_le_mul_right _ ?_)
      omega
    · cases h

theorem u8_dig (v : Nat) (h : v < 10) : (UInt8.ofNat (48 + v)).toNat = 48 + v := by
  rw [UInt8.toNat_ofNat']
  omega

theorem digs_head : ∀ (u : Nat), ∃ c r, digs u = c :: r ∧ 48 ≤ c.toNat ∧ c.toNat ≤ 57 ∧ (0 < u → c.toNat ≠ 48) := by
  intro u
  induction u using Nat.strongRecOn with
  | _ u ih =>
    by_cases h : u < 10
    · refine ⟨_, [], digs_lt h, ?_⟩
      rw [u8_dig u h]
      omega
    · obtain ⟨c, r, h1, h2, h3, h4⟩ := ih (u / 10) (by omega)
      exact ⟨c, r ++ [_], by rw [digs_ge h, h1]; rfl, h2, h3, fun _ => h4 (by omega)⟩

theorem dvl_digs : ∀ (u : Nat), dvl (digs u) 0 = some u := by
  intro u
  induction u using Nat.strongRecOn with
  | _ u ih =>
    by_cases h : u < 10
    · rw [digs_lt h, dvl, u8_dig u h, if_pos (by omega)]
      show some _ = some _
      congr 1
      omega
    · rw [digs_ge h, dvl_app, ih (u / 10) (by omega), u8_dig _ (by omega)]
      show (if _ then some _ else none) = _
      rw [if_pos (by omega)]
      congr 1
      omega

theorem u8_of (c : UInt8) : UInt8.ofNat c.toNat = c := by simp

theorem canon : ∀ (k : Nat) (l : List UInt8) (u : Nat), l.length = k → l ≠ [] → dvl l 0 = some u → (l.head? ≠ some 48 ∨ l.length = 1) → digs u = l := by
  intro k
  induction k with
  | zero => intro l u hk hl; exact absurd (List.length_eq_zero_iff.1 hk) hl
  | succ k ih =>
    intro l u hk hl h hh
    obtain ⟨l', c, rfl⟩ : ∃ l' c, l = l' ++ [c] := ⟨l.dropLast, l.getLast hl, (List.dropLast_concat_getLast hl).symm⟩
    rw [dvl_app] at h
    cases hv : dvl l' 0 with
    | none => rw [hv] at h; cases h
    | some v =>
      rw [hv] at h
      have h : (if 48 ≤ c.toNat ∧ c.toNat ≤ 57 then some (10 * v + (c.toNat - 48)) else none) = some u := h
      split at h
      · rename_i hc
        simp only [Option.some.injEq] at h
        by_cases hl' : l' = []
        · subst hl'
          simp only [dvl, Option.some.injEq] at hv
          subst hv
          rw [digs_lt (by omega), show 48 + u = c.toNat by omega, u8_of]
          rfl
        · have hne : l'.head? ≠ some 48 := by
            rcases hh with hh | hh
            · intro e
              apply hh
              cases l' with
              | nil => exact absurd rfl hl'
              | cons a b => simpa using e
            · exfalso
              simp at hh
              exact hl' hh
          have hd := ih l' v (by simp at hk; omega) hl' hv (.inl hne)
          have hv0 : v ≠ 0 := by
            rintro rfl
            rw [digs_lt (by omega)] at hd
            rw [← hd] at hne
            exact hne rfl
          rw [digs_ge (by omega), show u / 10 = v by omega, hd, show 48 + u % 10 = c.toNat by omega, u8_of]
      · cases h

theorem cut_neg {s : ByteArray} {r : List UInt8} (h : s.data.toList = 45 :: r) : cutV s ⟨#[45]⟩ = (ba r, true) := by
  have hs : s.size = r.length + 1 := by rw [show s.size = s.data.toList.length from (Array.length_toList).symm, h]; rfl
  have e1 : (s.extract 0 (ByteArray.size ⟨#[45]⟩)).data.toList = [45] := by
    rw [ByteArray.data_extract, Array.toList_extract, h]; rfl
  have e2 : s.extract (ByteArray.size ⟨#[45]⟩) s.size = ba r := by
    apply ByteArray.ext
    apply Array.toList_inj.1
    rw [ByteArray.data_extract, Array.toList_extract, h, hs]
    simp [ba, ByteArray.size, List.extract]
  rw [cutV, if_pos, e2]
  rw [e1]
  simp only [Bool.and_eq_true, decide_eq_true_eq]
  exact ⟨by rw [hs]; show (1 : Int) ≤ _; omega, trivial⟩
theorem cut_pos {s : ByteArray} (h : s.data.toList.head? ≠ some 45) : cutV s ⟨#[45]⟩ = (s, false) := by
  rw [cutV, if_neg]
  simp only [Bool.and_eq_true, decide_eq_true_eq]
  rintro ⟨h1, h2⟩
  apply h
  rw [ByteArray.data_extract, Array.toList_extract] at h2
  cases hl : s.data.toList with
  | nil => rw [hl] at h2; cases h2
  | cons a b =>
    rw [hl] at h2
    have : [a] = [45] := h2
    simp at this
    simp [this]

theorem bt0_head {s : ByteArray} {c : UInt8} {r : List UInt8} (h : s.data.toList = c :: r) : bt s 0 = c.toNat ∧ s.size = r.length + 1 := by
  have hs : s.size = r.length + 1 := by rw [show s.size = s.data.toList.length from (Array.length_toList).symm, h]; rfl
  obtain ⟨d, hd, hb⟩ := bt_list s 0 (by omega)
  rw [h] at hd
  simp at hd
  subst hd
  exact ⟨hb, hs⟩
theorem u8_eq {c : UInt8} {n : Nat} (hn : n < 256) : c.toNat = n ↔ c = UInt8.ofNat n := by
  constructor
  · rintro rfl; exact (u8_of c).symm
  · rintro rfl; rw [UInt8.toNat_ofNat']; omega

theorem numV_neg {s : ByteArray} {r : List UInt8} (h : s.data.toList = 45 :: r) :
    numV s = if r.length = 0 ∨ 19 < r.length ∨ r.head? = some 48 then (0, false) else match dvl r 0 with
      | none => (0, false)
      | some u => if u ≤ 9223372036854775808 then (-(u : Int), true) else (0, false) := by
  have hc := cut_neg h
  have hd : dv (ba r) r.length 0 0 = dvl r 0 := by rw [dv_list _ _ _ _ (by rw [ba_size]; omega)]; rfl
  unfold numV
  rw [hc]
  simp only [ba_size, hd]
  cases r with
  | nil => rw [if_pos (by simp), if_pos (by simp)]
  | cons c r =>
    have hb : bt (ba (c :: r)) 0 = c.toNat := (bt0_head (s := ba (c :: r)) rfl).1
    have h48 : c.toNat = 48 ↔ (c :: r).head? = some 48 := by rw [u8_eq (by omega)]; simp
    refine ite_cg (by rw [hb, h48]; simp) rfl ?_
    cases dvl (c :: r) 0 <;> simp

theorem numV_pos {s : ByteArray} {l : List UInt8} (hl : s.data.toList = l) (h : l.head? ≠ some 45) :
    numV s = if l.length = 0 ∨ 19 < l.length ∨ (l.head? = some 48 ∧ 1 < l.length) then (0, false) else match dvl l 0 with
      | none => (0, false)
      | some u => if u < 9223372036854775808 then ((u : Int), true) else (0, false) := by
  subst hl
  have hc := cut_pos h
  have hs : s.size = s.data.toList.length := (Array.length_toList).symm
  have hd : dv s s.size 0 0 = dvl s.data.toList 0 := by rw [dv_list _ _ _ _ (by omega)]; rfl
  unfold numV
  rw [hc]
  simp only [hd]
  rw [hs]
  cases hl : s.data.toList with
  | nil => rw [if_pos (by simp), if_pos (by simp)]
  | cons c r =>
    have hb := (bt0_head hl).1
    have h48 : c.toNat = 48 ↔ (c :: r).head? = some 48 := by rw [u8_eq (by omega)]; simp
    refine ite_cg (by rw [hb, h48]; simp) rfl ?_
    cases dvl (c :: r) 0 <;> simp

theorem showV_list (n : Int) : (showV n).data.toList = sgV n ++ digs n.natAbs := rfl

theorem num_eq (s : ByteArray) : numV s = refNumV s := by
  have hs : s.size = s.data.toList.length := (Array.length_toList).symm
  by_cases hneg : s.data.toList.head? = some 45
  · obtain ⟨r, hl⟩ : ∃ r, s.data.toList = 45 :: r := by
      cases h : s.data.toList with
      | nil => rw [h] at hneg; cases hneg
      | cons a b => rw [h] at hneg; simp at hneg; exact ⟨b, by rw [hneg]⟩
    have hb := bt0_head hl
    have hfr : frV s = 1 := by rw [frV, if_pos ⟨by omega, hb.1⟩]
    have hd : dv s s.size 1 0 = dvl r 0 := by rw [dv_list _ _ _ _ (by omega), hl]; rfl
    rw [numV_neg hl, refNumV, hfr, hd]
    by_cases h1 : r.length = 0 ∨ 19 < r.length
    · rw [if_pos (by omega), if_pos (by omega)]
    rw [if_neg (c := s.size = 1 ∨ 1 + 19 < s.size) (by omega)]
    have hr0 : r ≠ [] := fun e => h1 (.inl (by rw [e]; rfl))
    cases hv : dvl r 0 with
    | none => simp
    | some u =>
      simp only
      have hlt := dvl_lt r 0 u hv
      have hlt' : u < 10000000000000000000 := Nat.lt_of_lt_of_le hlt (by rw [Nat.zero_add, Nat.one_mul]; exact Nat.pow_le_pow_right (n := 10) (by omega) (show r.length ≤ 19 by omega))
      have hbk : backN s u = if u ≤ 9223372036854775808 then -(u : Int) else 18446744073709551616 - (u : Int) := by
        rw [backN, if_pos hfr, IntKind.wrap_i64, IntKind.wrap_u64]
        split <;> omega
      by_cases h48 : r.head? = some 48
      · rw [if_pos (by simp [h48])]
        rw [if_neg]
        rw [showV_list, hl]
        intro e
        obtain ⟨c, q, e1, e2, e3, e4⟩ := digs_head (backN s u).natAbs
        rw [sgV] at e
        split at e
        · rename_i hn
          rw [e1] at e
          simp at e
          rw [← e] at h48
          simp at h48
          rw [h48] at e4
          exact e4 (by omega) rfl
        · rw [e1] at e
          simp at e
          rw [e.1] at e2
          simp at e2
      · rw [if_neg (fun h => h.elim (fun h => h1 (.inl h)) fun h => h.elim (fun h => h1 (.inr h)) h48)]
        have hcan := canon r.length r u rfl hr0 hv (.inl h48)
        have hu0 : u ≠ 0 := by
          rintro rfl
          rw [digs_lt (by omega)] at hcan
          rw [← hcan] at h48
          exact h48 rfl
        by_cases hu : u ≤ 9223372036854775808
        · rw [if_pos hu] at hbk
          rw [if_pos hu, if_pos, hbk]
          rw [hbk, showV_list, hl, sgV, if_pos (by omega), show (-(u : Int)).natAbs = u by omega, hcan]
          rfl
        · rw [if_neg hu] at hbk
          rw [if_neg hu, if_neg]
          rw [hbk, showV_list, hl, sgV, if_neg (by omega)]
          intro e
          obtain ⟨c, q, e1, e2, e3, e4⟩ := digs_head (18446744073709551616 - (u : Int)).natAbs
          rw [e1] at e
          simp at e
          rw [e.1] at e2
          simp at e2
  · have hfr : frV s = 0 := by
      rw [frV, if_neg]
      rintro ⟨h1, h2⟩
      cases hl : s.data.toList with
      | nil => rw [hl] at hs; simp only [List.length_nil] at hs; omega
      | cons c r =>
        have hb := (bt0_head hl).1
        rw [hl] at hneg
        apply hneg
        rw [hb] at h2
        simp [(u8_eq (c := c) (n := 45) (by omega)).1 h2]
    have hd : dv s s.size 0 0 = dvl s.data.toList 0 := by rw [dv_list _ _ _ _ (by omega)]; rfl
    rw [numV_pos rfl hneg, refNumV, hfr, hd]
    generalize hl : s.data.toList = l at *
    by_cases h1 : l.length = 0 ∨ 19 < l.length
    · rw [if_pos (by omega), if_pos (by omega)]
    rw [if_neg (c := s.size = 0 ∨ 0 + 19 < s.size) (by omega)]
    have hr0 : l ≠ [] := fun e => h1 (.inl (by rw [e]; rfl))
    cases hv : dvl l 0 with
    | none => simp
    | some u =>
      simp only
      have hlt := dvl_lt l 0 u hv
      have hlt' : u < 10000000000000000000 := Nat.lt_of_lt_of_le hlt (by rw [Nat.zero_add, Nat.one_mul]; exact Nat.pow_le_pow_right (n := 10) (by omega) (show l.length ≤ 19 by omega))
      have hbk : backN s u = if u < 9223372036854775808 then (u : Int) else (u : Int) - 18446744073709551616 := by
        rw [backN, if_neg (by omega), IntKind.wrap_i64]
        split <;> omega
      by_cases hu : u < 9223372036854775808
      · rw [if_pos hu] at hbk
        rw [if_pos hu]
        by_cases h48 : l.head? = some 48 ∧ 1 < l.length
        · rw [if_pos (by simp [h48]), if_neg]
          rw [hbk, showV_list, sgV, if_neg (by omega), show ((u : Int)).natAbs = u by omega]
          intro e
          simp only [List.nil_append] at e
          by_cases hu0 : u = 0
          · subst hu0
            rw [digs_lt (by omega)] at e
            rw [← e] at h48
            simp at h48
          · obtain ⟨c, q, e1, e2, e3, e4⟩ := digs_head u
            rw [← e, e1] at h48
            simp at h48
            rw [h48.1] at e4
            exact e4 (by omega) rfl
        · rw [if_neg (fun h => h.elim (fun h => h1 (.inl h)) fun h => h.elim (fun h => h1 (.inr h)) h48)]
          have hcan := canon l.length l u rfl hr0 hv (by
            by_cases e : l.head? = some 48
            · exact .inr (by have : ¬ 1 < l.length := fun h => h48 ⟨e, h⟩
                             omega)
            · exact .inl e)
          rw [if_pos, hbk]
          rw [hbk, showV_list, sgV, if_neg (by omega), show ((u : Int)).natAbs = u by omega, hcan]
          rfl
      · rw [if_neg hu] at hbk
        rw [if_neg hu, if_neg (c := (showV (backN s u)).data.toList = l)]
        · split <;> rfl
        · rw [hbk, showV_list, sgV, if_pos (by omega)]
          intro e
          rw [← e] at hneg
          exact hneg rfl

theorem num_back (n : Int) (hn : inI64 n) : numV (showV n) = (n, true) := by
  unfold inI64 at hn
  obtain ⟨c, q, e1, e2, e3, e4⟩ := digs_head n.natAbs
  have hlen := digs_len 18 n.natAbs (by show n.natAbs < 10000000000000000000; omega)
  by_cases h0 : n < 0
  · have hl : (showV n).data.toList = 45 :: digs n.natAbs := by rw [showV_list, sgV, if_pos h0]; rfl
    have h48 : (digs n.natAbs).head? ≠ some 48 := by
      rw [e1]
      intro e
      simp at e
      exact e4 (by omega) (by rw [e]; rfl)
    rw [numV_neg hl, if_neg, dvl_digs]
    · simp only
      rw [if_pos (by omega)]
      congr 1
      omega
    · rintro (h | h | h)
      · rw [e1] at h; simp at h
      · omega
      · exact h48 h
  · have hl : (showV n).data.toList = digs n.natAbs := by rw [showV_list, sgV, if_neg h0]; rfl
    have h45 : (digs n.natAbs).head? ≠ some 45 := by
      rw [e1]
      intro e
      simp at e
      rw [e] at e2
      simp at e2
    rw [numV_pos hl h45, if_neg, dvl_digs]
    · simp only
      rw [if_pos (by omega)]
      congr 1
      omega
    · rintro (h | h | h)
      · rw [e1] at h; simp at h
      · omega
      · by_cases hz : n.natAbs = 0
        · rw [hz, digs_lt (by omega)] at h
          simp at h
        · rw [e1] at h
          simp at h
          exact e4 (by omega) (by rw [h.1]; rfl)

theorem num_one : numV ⟨#[49]⟩ = (1, true) := by
  have : (⟨#[49]⟩ : ByteArray) = showV 1 := by
    unfold showV sgV
    rw [if_neg (by omega), show Int.natAbs 1 = 1 from rfl, digs_lt (by omega)]
    decide +kernel
  rw [this]
  exact num_back 1 (by unfold inI64; omega)

theorem numbers_spec (s : ByteArray) (hs : s.size ≤ 9223372036854775807) : Pure Try.prog 7 [vs s] (vb true) [] := by
  refine Proc.mk (cfg 38) tysOK [] Try.func7 rfl (by kernel_rfl) rfl rfl rfl ?_
  intro C x
  refine x.pure rfl trivial rfl (number_spec s) ⟨rfl, trivial⟩ ?_
  refine x.pure rfl trivial rfl (ref_number_spec s hs) ⟨rfl, trivial⟩ ?_
  refine x.pure rfl trivial rfl (number_spec ⟨#[49]⟩) ⟨rfl, trivial⟩ ?_
  refine x.exit rfl trivial ?_
  refine ⟨.inr rfl, ?_, trivial, rfl⟩
  show _ = _
  rw [num_one, num_eq]
  simp

theorem back_spec (n : Int) (hn : inI64 n) : Pure Try.prog 9 [vi n] (vb true) [] := by
  refine Proc.mk (cfg 17) tysOK [] Try.func9 rfl (by kernel_rfl) rfl rfl rfl ?_
  intro C x
  refine x.pure rfl trivial rfl (show_spec n hn) ⟨rfl, trivial⟩ ?_
  refine x.pure rfl trivial rfl (number_spec _) ⟨rfl, trivial⟩ ?_
  refine x.exit rfl trivial ?_
  refine ⟨.inr rfl, ?_, trivial, rfl⟩
  show _ = _
  rw [num_back n hn]
  simp
end Go.Proofs.Ytgibncjbojocoaa
