/- Texts put together: T06I, T06J, T01C, T01O, T01Q, T06T, T01X, T01Y, T06G, T06U, T06N, T06O, T06P, T06Q. -/
import Derived.Test.YtcdfjaaipbjpnaaDoorMB
import Derived.Test.YtcdfjaaipbjpnaaDoorMA
import Derived.Test.YtcdfjaaipbjpnaaDoorSxG

/- Policies, plain: the words of a line, byte by byte. -/
namespace Go.Proofs.YtcdfjaaipbjpnaaDoor
open Go.Sx
set_option linter.unusedVariables false
set_option linter.unusedSimpArgs false

/-- Is a byte a blank? -/
def blkB (b : UInt8) : Bool := decide (b = 32) || decide (b = 9)
/-- The words of the rest, of which one is under way. -/
def wordsG : List UInt8 → List UInt8 → List (List UInt8)
  | cur, [] => if cur = [] then [] else [cur]
  | cur, b :: r => if blkB b then (if cur = [] then wordsG [] r else cur :: wordsG [] r) else wordsG (cur ++ [b]) r
theorem wordsG_more : ∀ (l cur r : List UInt8), (∀ b ∈ l, blkB b = false) → wordsG cur (l ++ r) = wordsG (cur ++ l) r
  | [], cur, r, _ => by simp
  | b :: l, cur, r, h => by
    rw [List.cons_append, wordsG, if_neg (by rw [h b (.head _)]; simp), wordsG_more l (cur ++ [b]) r (fun x hx => h x (.tail _ hx)), List.append_assoc]
    rfl
theorem dec_low (sz p a b c d : Nat) (ha : a < 256) : (((dec sz p a b c d).1 = 32 ∨ (dec sz p a b c d).1 = 9) ↔ (a = 32 ∨ a = 9)) ∧ ((a = 32 ∨ a = 9) → (dec sz p a b c d).2 = 1) ∧
    (¬ (a = 32 ∨ a = 9) → ∀ k, k < (dec sz p a b c d).2 → (k = 1 → 127 < b) ∧ (k = 2 → 127 < c) ∧ (k = 3 → 127 < d) ∧ k < 4) := by
  unfold dec
  repeat' split
  all_goals refine ⟨by dsimp only; omega, by dsimp only; omega, fun _ k hk => ?_⟩
  all_goals dsimp only at hk
  all_goals omega
def byt (s : ByteArray) (i : Nat) : UInt8 := s.data.toList.getD i 0
theorem byt_bt (s : ByteArray) (i : Nat) : (byt s i).toNat = bt s i := by
  have h := sb_bt s i
  unfold sb at h
  unfold byt
  omega
theorem blk_bt (s : ByteArray) (i : Nat) : blkB (byt s i) = true ↔ (bt s i = 32 ∨ bt s i = 9) := by
  rw [← byt_bt]
  unfold blkB
  simp only [Bool.or_eq_true, decide_eq_true_eq, ← UInt8.toNat_inj]
  exact Iff.rfl
theorem decode_blk (s : ByteArray) (p : Nat) : blankP (Utf8.decode s p).1 = blkB (byt s p) ∧ (blkB (byt s p) = true → (Utf8.decode s p).2 = 1) ∧
    (blkB (byt s p) = false → ∀ k, k < (Utf8.decode s p).2 → blkB (byt s (p + k)) = false) := by
  have h := dec_low s.size p (bt s p) (bt s (p + 1)) (bt s (p + 2)) (bt s (p + 3)) (bt_lt s p)
  rw [decode_eq]
  have hb := blk_bt s p
  refine ⟨?_, fun e => h.2.1 (hb.1 e), fun hn k hk => ?_⟩
  · rw [Bool.eq_iff_iff, hb, ← h.1]
    unfold blankP
    simp only [Bool.or_eq_true, decide_eq_true_eq]
    omega
  · have hn' : ¬ (bt s p = 32 ∨ bt s p = 9) := fun e => by rw [hb.2 e] at hn; cases hn
    obtain ⟨h1, h2, h3, h4⟩ := h.2.2 hn' k hk
    have key : ∀ j, 127 < bt s j → blkB (byt s j) = false := fun j hj => by
      cases e : blkB (byt s j) with
      | false => rfl
      | true => have := (blk_bt s j).1 e; omega
    match k, h4 with
    | 0, _ => exact hn
    | 1, _ => exact key _ (h1 rfl)
    | 2, _ => exact key _ (h2 rfl)
    | 3, _ => exact key _ (h3 rfl)
theorem ext_l (s : ByteArray) (a b : Nat) : (s.extract a b).data.toList = (s.data.toList.drop a).take (b - a) := by
  rw [show (s.extract a b).data = s.data.extract a b from ByteArray.data_extract, Array.toList_extract]
theorem size_l (s : ByteArray) : s.data.toList.length = s.size := Array.length_toList
theorem drop_byt {s : ByteArray} {p : Nat} (h : p < s.size) : s.data.toList.drop p = byt s p :: s.data.toList.drop (p + 1) := by
  have h' : p < s.data.toList.length := by rw [size_l]; exact h
  rw [List.drop_eq_getElem_cons h']
  unfold byt
  rw [List.getD_eq_getElem?_getD, List.getElem?_eq_getElem h']; rfl
theorem ext_more {s : ByteArray} {a p w : Nat} (h1 : a ≤ p) (h2 : p + w ≤ s.size) : (s.extract a (p + w)).data.toList = (s.extract a p).data.toList ++ (s.data.toList.drop p).take w := by
  rw [ext_l, ext_l, show p + w - a = (p - a) + w by omega, List.take_add, List.drop_drop, show a + (p - a) = p by omega]
abbrev wl (s : ByteArray) (x : Nat × Nat) : List UInt8 := (s.extract x.1 x.2).data.toList
def curW (s : ByteArray) (pos : Nat) : Option Nat → List UInt8
  | none => []
  | some a => wl s (a, pos)
theorem spans_words (s : ByteArray) : ∀ (n pos : Nat) (st : Option Nat) (acc : List (Nat × Nat)), s.size ≤ pos + n → pos ≤ s.size → (∀ a, st = some a → a < pos) →
    (Lib.closeSpans s (Lib.spansFromP blankP s n pos st acc)).map (wl s) = acc.map (wl s) ++ wordsG (curW s pos st) (s.data.toList.drop pos)
  | 0, pos, st, acc, hn, hp, hst => by
    obtain rfl : pos = s.size := by omega
    have e : s.data.toList.drop s.size = [] := List.drop_eq_nil_of_le (by rw [size_l]; exact Nat.le_refl _)
    rw [e, Lib.spansFromP.eq_def]
    cases st with
    | none => simp [Lib.closeSpans, curW, wordsG]
    | some a =>
      have ha := hst a rfl
      have hne : curW s s.size (some a) ≠ [] := fun h0 => by
        have := congrArg List.length h0
        simp only [curW, wl, ext_l, List.length_take, List.length_drop, size_l, List.length_nil] at this
        omega
      simp [Lib.closeSpans, wordsG, hne]
      rfl
  | n + 1, pos, st, acc, hn, hp, hst => by
    rw [Lib.spansFromP.eq_def]
    simp only
    by_cases hlt : pos < s.size
    · rw [if_pos hlt]
      obtain ⟨d1, d2, d3⟩ := decode_blk s pos
      have hroom := decode_room hlt
      have hpos := (decode_pos s pos).1
      generalize hw : (Utf8.decode s pos).2 = w at d2 d3 hroom hpos ⊢
      rw [d1]
      cases hb : blkB (byt s pos) with
      | true =>
        have hw1 := d2 hb
        subst hw1
        rw [if_pos rfl, drop_byt hlt, wordsG, if_pos hb]
        cases st with
        | none =>
          rw [spans_words s n (pos + 1) none acc (by omega) (by omega) (fun a ha => by cases ha)]
          simp [curW]
        | some a =>
          have ha := hst a rfl
          have hne : curW s pos (some a) ≠ [] := fun h0 => by
            have := congrArg List.length h0
            simp only [curW, wl, ext_l, List.length_take, List.length_drop, size_l, List.length_nil] at this
            omega
          rw [if_neg hne]
          simp only
          rw [spans_words s n (pos + 1) none (acc ++ [(a, pos)]) (by omega) (by omega) (fun a ha => by cases ha)]
          simp [curW]
      | false =>
        rw [if_neg (by simp)]
        have hcut : s.data.toList.drop pos = (s.data.toList.drop pos).take w ++ s.data.toList.drop (pos + w) := by
          rw [← List.drop_drop, List.take_append_drop]
        have hall : ∀ b ∈ (s.data.toList.drop pos).take w, blkB b = false := fun b hbm => by
          obtain ⟨k, hk, rfl⟩ := List.getElem_of_mem hbm
          have hk' : k < w := by simp only [List.length_take] at hk; omega
          have := d3 hb k hk'
          have e : ((s.data.toList.drop pos).take w)[k] = byt s (pos + k) := by
            have hk2 : pos + k < s.data.toList.length := by rw [size_l]; omega
            unfold byt
            rw [List.getElem_take, List.getElem_drop, List.getD_eq_getElem?_getD, List.getElem?_eq_getElem hk2]; rfl
          rw [e]; exact this
        cases st with
        | none =>
          simp only
          rw [spans_words s n (pos + w) (some pos) acc (by omega) (by omega) (fun a ha => by cases ha; omega)]
          conv => rhs; rw [hcut]
          rw [wordsG_more _ _ _ hall]
          congr 2
          show wl s (pos, pos + w) = [] ++ _
          rw [wl, ext_more (Nat.le_refl _) hroom, ext_l]
          simp
        | some a =>
          have ha := hst a rfl
          simp only
          rw [spans_words s n (pos + w) (some a) acc (by omega) (by omega) (fun a' ha' => by cases ha'; omega)]
          conv => rhs; rw [hcut]
          rw [wordsG_more _ _ _ hall]
          congr 2
          exact ext_more (by omega) hroom
    · rw [if_neg hlt]
      exact spans_words s 0 pos st acc (by omega) hp hst
/-- A line's words are those of its bytes. -/
theorem fields_words (s : ByteArray) : (fieldsL s).map (fun w => w.data.toList) = wordsG [] s.data.toList := by
  have h := spans_words s s.size 0 none [] (by omega) (Nat.zero_le _) (fun a ha => by cases ha)
  unfold fieldsL Lib.goFieldsP Lib.spansOfP
  rw [List.map_map]
  exact h
end Go.Proofs.YtcdfjaaipbjpnaaDoor

/- Policies, plain: the lines of a text, byte by byte; where the first word stands. -/
namespace Go.Proofs.YtcdfjaaipbjpnaaDoor
open Go.Sx
set_option linter.unusedVariables false
set_option linter.unusedSimpArgs false

/-- The lines of the rest, of which one is under way. -/
def linesG : List UInt8 → List UInt8 → List (List UInt8)
  | cur, [] => [cur]
  | cur, b :: r => if b = 10 then cur :: linesG [] r else linesG (cur ++ [b]) r
theorem pre10 (b : UInt8) (l : List UInt8) : List.isPrefixOf [10] (b :: l) = decide (b = 10) := by
  simp only [List.isPrefixOf, Bool.and_true]
  by_cases h : b = 10
  · subst h; decide
  · rw [decide_eq_false h]
    exact beq_false_of_ne fun e => h e.symm
theorem linesG_idx : ∀ (s cur : List UInt8), (Lib.index s [10] = -1 → linesG cur s = [cur ++ s]) ∧ ∀ i : Nat, Lib.index s [10] = i → linesG cur s = (cur ++ s.take i) :: linesG [] (s.drop (i + 1))
  | [], cur => by
    have e : Lib.index [] [10] = -1 := rfl
    exact ⟨fun _ => by simp [linesG], fun i hi => by rw [e] at hi; omega⟩
  | b :: s, cur => by
    rw [Lib.index, pre10, linesG]
    by_cases hb : b = 10
    · rw [if_pos (decide_eq_true hb), if_pos hb]
      refine ⟨fun h => (by cases h), fun i hi => ?_⟩
      obtain rfl : i = 0 := by omega
      simp
    · obtain ⟨h1, h2⟩ := linesG_idx s (cur ++ [b])
      rw [if_neg (by simpa using hb), if_neg hb]
      have hg := Lib.index_ge s [10]
      by_cases hm : Lib.index s [10] = -1
      · rw [if_pos (beq_iff_eq.2 hm)]
        exact ⟨fun _ => by rw [h1 hm]; simp, fun i hi => by omega⟩
      · rw [if_neg (fun e => hm (beq_iff_eq.1 e))]
        refine ⟨fun h => by omega, fun i hi => ?_⟩
        have hj : Lib.index s [10] = ((i - 1 : Nat) : Int) := by omega
        rw [h2 (i - 1) hj]
        obtain ⟨j, rfl⟩ : ∃ j, i = j + 1 := ⟨i - 1, by omega⟩
        simp
theorem split_lines : ∀ (k : Nat) (s : List UInt8), Lib.count s [10] = k → Lib.splitK [10] 0 k s = linesG [] s
  | 0, s, h => by
    have hg := Lib.index_ge s [10]
    by_cases hm : Lib.index s [10] = -1
    · rw [(linesG_idx s []).1 hm]; rfl
    · have := Lib.count_hit (s := s) (sub := [10]) (i := (Lib.index s [10]).toNat) (by simp) (by omega)
      omega
  | k + 1, s, h => by
    have hg := Lib.index_ge s [10]
    by_cases hm : Lib.index s [10] = -1
    · rw [Lib.count_miss hm] at h; omega
    · have hc := Lib.count_hit (s := s) (sub := [10]) (i := (Lib.index s [10]).toNat) (by simp) (by omega)
      rw [Lib.splitK, if_neg (fun e => hm (beq_iff_eq.1 e)), (linesG_idx s []).2 (Lib.index s [10]).toNat (by omega)]
      have hk : Lib.count (s.drop ((Lib.index s [10]).toNat + ([10] : List UInt8).length)) [10] = k := by
        rw [List.length_singleton] at hc ⊢
        omega
      rw [split_lines k _ hk]
      simp
theorem lines_lines (s : ByteArray) : (linesL s).map (fun w => w.data.toList) = linesG [] s.data.toList := by
  unfold linesL
  rw [Lib.splitB_data]
  exact split_lines _ _ rfl

/-! ### the first word -/
def lead : List UInt8 → Nat
  | [] => 0
  | b :: r => if blkB b then lead r + 1 else 0
theorem word_pre : ∀ (r cur : List UInt8) (w : List UInt8) (ws : List (List UInt8)), cur ≠ [] → wordsG cur r = w :: ws → w.isPrefixOf (cur ++ r) = true ∧ cur.isPrefixOf w = true
  | [], cur, w, ws, hc, h => by
    rw [wordsG, if_neg hc] at h
    cases h
    simp
  | b :: r, cur, w, ws, hc, h => by
    rw [wordsG] at h
    by_cases hb : blkB b = true
    · rw [if_pos hb, if_neg hc] at h
      cases h
      simp
    · rw [if_neg hb] at h
      obtain ⟨h1, h2⟩ := word_pre r (cur ++ [b]) w ws (by simp) h
      refine ⟨by simpa using h1, ?_⟩
      rw [List.isPrefixOf_iff_prefix] at h2 ⊢
      exact (List.prefix_append _ _).trans h2
theorem words_ne : ∀ (r cur : List UInt8) (w : List UInt8), (cur ≠ [] → ∀ b, cur.head? = some b → blkB b = false) → w ∈ wordsG cur r → ∃ b t, w = b :: t ∧ blkB b = false
  | [], cur, w, hc, h => by
    rw [wordsG] at h
    by_cases h0 : cur = []
    · rw [if_pos h0] at h; cases h
    · rw [if_neg h0, List.mem_singleton] at h
      subst h
      cases w with
      | nil => exact absurd rfl h0
      | cons b t => exact ⟨b, t, rfl, hc h0 b rfl⟩
  | b :: r, cur, w, hc, h => by
    rw [wordsG] at h
    by_cases hb : blkB b = true
    · rw [if_pos hb] at h
      by_cases h0 : cur = []
      · rw [if_pos h0] at h
        exact words_ne r [] w (fun h => absurd rfl h) h
      · rw [if_neg h0] at h
        rcases List.mem_cons.1 h with rfl | h
        · cases w with
          | nil => exact absurd rfl h0
          | cons b' t => exact ⟨b', t, rfl, hc h0 b' rfl⟩
        · exact words_ne r [] w (fun h => absurd rfl h) h
    · rw [if_neg hb] at h
      refine words_ne r (cur ++ [b]) w (fun _ b' hb' => ?_) h
      cases cur with
      | nil => simp at hb'; subst hb'; simpa using hb
      | cons x t => exact hc (by simp) b' (by simpa using hb')
theorem index_first : ∀ (l : List UInt8) (w : List UInt8) (ws : List (List UInt8)), wordsG [] l = w :: ws → Lib.index l w = (lead l : Int)
  | [], w, ws, h => by simp [wordsG] at h
  | b :: r, w, ws, h => by
    obtain ⟨c, t, hw, hc⟩ := words_ne (b :: r) [] w (fun h => absurd rfl h) (by rw [h]; exact .head _)
    rw [wordsG] at h
    by_cases hb : blkB b = true
    · rw [if_pos hb, if_pos rfl] at h
      have ih := index_first r w ws h
      have hne : w.isPrefixOf (b :: r) = false := by
        rw [hw]
        simp only [List.isPrefixOf, Bool.and_eq_false_iff]
        left
        exact beq_false_of_ne fun e => by rw [e, hb] at hc; cases hc
      rw [Lib.index, if_neg (by rw [hne]; simp), ih, if_neg (by intro e; have := beq_iff_eq.1 e; omega), lead, if_pos hb]
      omega
    · rw [if_neg hb] at h
      obtain ⟨h1, _⟩ := word_pre r ([] ++ [b]) w ws (by simp) h
      rw [Lib.index, if_pos (by simpa using h1), lead, if_neg hb]
      rfl
end Go.Proofs.YtcdfjaaipbjpnaaDoor

/- The reference for letters, and the law on letters. -/
namespace Go.Proofs.YtcdfjaaipbjpnaaDoor
open Go.Sx
set_option linter.unusedVariables false
set_option maxRecDepth 100000
theorem ref_digit_spec (r : Int) : Pure PG 115 [vi r] (vb (decide (48 ≤ r) && decide (r ≤ 57))) [] := by
  refine Proc.mk (cfg 9) tysOK [] Tryd.func115 rfl (by kernel_rfl) rfl rfl rfl ?_
  intro C x
  refine x.exit rfl trivial ?_
  exact ⟨.inr rfl, rfl, trivial, rfl⟩

theorem ref_letter_spec (r : Int) : Pure PG 114 [vi r] (vb (decide (97 ≤ r) && decide (r ≤ 122) || decide (65 ≤ r) && decide (r ≤ 90) || decide (r = 95) || decide (945 ≤ r) && decide (r ≤ 969) || decide (913 ≤ r) && decide (r ≤ 937) && !decide (r = 930))) [] := by
  refine Proc.mk (cfg 39) tysOK [] Tryd.func114 rfl (by kernel_rfl) rfl rfl rfl ?_
  intro C x
  refine x.cond rfl trivial (fun h => ?_) (fun h => ?_)
  · refine x.exit rfl trivial ?_
    refine ⟨.inr rfl, ?_, trivial, rfl⟩
    show true = _
    simp only [Bool.or_eq_true, Bool.and_eq_true, decide_eq_true_eq] at h
    symm
    simp only [Bool.or_eq_true, Bool.and_eq_true, decide_eq_true_eq]
    omega
  · refine x.exit rfl trivial ?_
    refine ⟨.inr rfl, ?_, trivial, rfl⟩
    show _ = _
    simp only [h, Bool.false_or]

end Go.Proofs.YtcdfjaaipbjpnaaDoor

/- Is it a name? The reference's answer. -/
namespace Go.Proofs.YtcdfjaaipbjpnaaDoor
open Go.Sx
set_option linter.unusedVariables false
set_option linter.unusedSimpArgs false
set_option maxRecDepth 100000

def refNameW (s : ByteArray) : Nat → Int → Bool
  | 0, _ => true
  | n + 1, i => if i < s.size then
      if (!letB (formV s i).1 && (decide (i = 0) || !digB (formV s i).1)) = true then false else refNameW s n (nextV s i)
    else true
theorem refNameW_end {s : ByteArray} {n : Nat} {i : Int} (h : ¬ i < s.size) : refNameW s n i = true := by
  cases n with
  | zero => rfl
  | succ n => rw [refNameW, if_neg h]
def refNameV (s : ByteArray) : Bool :=
  if (decide ((s.size : Int) = 0) || decide (0 ≤ badV s s.size 0) || decide (24 < runesV s s.size 0 0)) = true then false else refNameW s s.size 0

structure OI (s : ByteArray) where
  n : Nat
  i : Int
  fuel : (s.size : Int) ≤ i + n
  same : refNameW s n i = refNameW s s.size 0
  hi : 0 ≤ i ∧ i ≤ s.size

theorem ref_name_spec (s : ByteArray) (hs : s.size ≤ 9223372036854775807) : Pure PG 92 [vs s] (vb (refNameV s)) [] := by
  refine Proc.mk (cfg 44) tysOK [] Tryd.func92 rfl (by kernel_rfl) rfl rfl rfl ?_
  intro C x
  refine x.pureG rfl trivial rfl (fun _ => bad_spec s hs) rfl ⟨rfl, trivial⟩ ?_
  refine x.pureG rfl trivial rfl (fun _ => runes_spec s hs) rfl ⟨rfl, trivial⟩ ?_
  refine x.cond rfl trivial (fun h0 => ?_) (fun h0 => ?_)
  · refine x.exit rfl trivial ?_
    refine ⟨.inr rfl, ?_, trivial, rfl⟩
    rw [refNameV, if_pos h0]
    exact rfl
  have h0' : refNameV s = refNameW s s.size 0 := by
    rw [refNameV, if_neg (by rw [h0]; simp)]
  refine x.loop (α := OI s) (fun y => ⟨[(0, vs s), (3, vi y.i)], [], 0⟩) (fun y => (s.size + 4 - y.i).toNat) ⟨s.size, 0, by omega, rfl, by omega⟩ rfl trivial ?_ (fun y => ?_)
  · exact ⟨⟨rfl, rfl, trivial⟩, trivial, rfl⟩
  obtain ⟨n, i, fuel, same, hi⟩ := y
  change Go C _ ⟨[(0, vs s), (3, vi i)], [], 0⟩ _
  refine x.cond rfl trivial (fun h => ?_) (fun h => ?_)
  · have h' : i < s.size := by simpa using h
    have hn := nextV_gt s i
    have hr := nextV_room s i (by omega)
    refine x.pure rfl trivial rfl (form_spec s i hs) ⟨rfl, rfl, trivial⟩ ?_
    refine x.pure rfl trivial rfl (ref_letter_spec _) ⟨rfl, trivial⟩ ?_
    refine x.pureG rfl trivial rfl (fun _ _ => ref_digit_spec _) rfl ⟨rfl, trivial⟩ ?_
    cases n with
    | zero => omega
    | succ n =>
      rw [refNameW, if_pos h'] at same
      refine x.cond rfl trivial (fun h2 => ?_) (fun h2 => ?_)
      · rw [if_pos (show (!letB (formV s i).1 && (decide (i = 0) || !digB (formV s i).1)) = true from h2)] at same
        refine x.exit rfl trivial ?_
        refine ⟨.inr rfl, ?_, trivial, rfl⟩
        rw [h0', ← same]
        exact rfl
      · rw [if_neg (by rw [show (!letB (formV s i).1 && (decide (i = 0) || !digB (formV s i).1)) = false from h2]; simp)] at same
        refine x.pure rfl trivial rfl (next_spec s i hs (by omega)) ⟨rfl, rfl, trivial⟩ ?_
        refine x.back rfl trivial ?_
        refine ⟨⟨n, nextV s i, by omega, same, by omega⟩, by show ((s.size : Int) + 4 - nextV s i).toNat < ((s.size : Int) + 4 - i).toNat; omega, ?_⟩
        exact ⟨⟨rfl, rfl, trivial⟩, trivial, rfl⟩
  · have h' : ¬ i < s.size := by simpa using h
    refine x.exit rfl trivial ?_
    refine ⟨.inr rfl, ?_, trivial, rfl⟩
    rw [h0', ← same, refNameW_end h']
    exact rfl
end Go.Proofs.YtcdfjaaipbjpnaaDoor

/- Names: both answer alike; the law. -/
namespace Go.Proofs.YtcdfjaaipbjpnaaDoor
open Go.Sx
set_option linter.unusedVariables false
set_option linter.unusedSimpArgs false
set_option maxRecDepth 100000

theorem runesV_ge (s : ByteArray) : ∀ (n : Nat) (i c : Int), c ≤ runesV s n i c
  | 0, i, c => Int.le_refl c
  | n + 1, i, c => by
    rw [runesV]
    split
    · have := runesV_ge s n (nextV s i) (c + 1); omega
    · exact Int.le_refl c

theorem nameW_eq (s : ByteArray) : ∀ (n p : Nat) (c : Int), s.size ≤ p + n → c ≤ 24 →
    nameW s n p c = (!decide (0 ≤ badV s n p) && decide (runesV s n p c ≤ 24) && refNameW s n p && decide (0 < runesV s n p c)) := by
  intro n
  induction n with
  | zero =>
    intro p c h1 h2
    rw [nameW, badV, runesV, refNameW]
    simp [h2]
  | succ n ih =>
    intro p c h1 h2
    by_cases hp : p < s.size
    · have hp' : (p : Int) < s.size := by omega
      have hf := formV_at hp
      rw [nameW, badV, runesV, refNameW, if_pos hp, if_pos hp', if_pos hp', if_pos hp', nextV_at hp, hf]
      by_cases hb : (Utf8.decode s p).2 = 1 ∧ 128 ≤ bt s p
      · have hr : (Utf8.decode s p).1 = 65533 := by
          rw [decode_eq] at hb ⊢
          exact dec_bad _ _ _ _ _ _ hb.1 hb.2
        rw [if_pos hb, hr]
        simp [letB, digB]
      · obtain ⟨d1, d2, d3⟩ := decode_pos s p
        have hz : ¬ (((Utf8.decode s p).2 : Int) = 0) := by omega
        rw [if_neg hb]
        simp only
        rw [if_neg hz]
        by_cases hc : (!letB (Utf8.decode s p).1 && (decide ((p : Int) = 0) || !digB (Utf8.decode s p).1)) = true
        · rw [if_pos hc, if_pos hc]; simp
        · rw [if_neg hc, if_neg hc]
          by_cases h24 : 24 < c + 1
          · have := runesV_ge s n ((p + (Utf8.decode s p).2 : Nat) : Int) (c + 1)
            rw [if_pos h24, decide_eq_false (p := runesV s n ((p + (Utf8.decode s p).2 : Nat) : Int) (c + 1) ≤ 24) (by omega)]
            simp
          · rw [if_neg h24, ih (p + (Utf8.decode s p).2) (c + 1) (by omega) (by omega)]
            simp
    · rw [nameW_end hp, badV_end (by omega), runesV_end (by omega), refNameW_end (by omega)]
      simp [h2]

theorem name_eq (s : ByteArray) : nameW s s.size 0 0 = refNameV s := by
  rw [nameW_eq s s.size 0 0 (by omega) (by omega), refNameV]
  by_cases h0 : s.size = 0
  · rw [if_pos (by simp [h0]), h0]
    simp [runesV]
  · have h1 : 0 < runesV s s.size 0 0 := by
      obtain ⟨k, hk⟩ : ∃ k, s.size = k + 1 := ⟨s.size - 1, by omega⟩
      rw [hk, runesV, if_pos (by omega)]
      have := runesV_ge s k (nextV s 0) (0 + 1)
      omega
    rw [decide_eq_false (p := ((s.size : Int) = 0)) (by omega), Bool.false_or]
    by_cases h2 : 0 ≤ badV s s.size 0
    · simp [h2]
    · by_cases h3 : 24 < runesV s s.size 0 0
      · rw [if_pos (by simp [h3]), decide_eq_false (p := runesV s s.size ((0 : Nat) : Int) 0 ≤ 24) (by simp; omega)]
        simp
      · rw [if_neg (by simp [h2]; omega)]
        simp [h1, h2]
        omega
end Go.Proofs.YtcdfjaaipbjpnaaDoor

/- Policies: the answer's words, first, Name. -/
namespace Go.Proofs.YtcdfjaaipbjpnaaDoor
open Go.Sx
set_option linter.unusedVariables false
set_option linter.unusedSimpArgs false
set_option maxRecDepth 100000

theorem sbE (s : ByteArray) (i : Nat) (c : UInt8) : sb s i = (c.toNat : Int) ↔ byt s i = c := by
  rw [sb_bt, ← byt_bt, ← UInt8.toNat_inj]; omega
theorem blkE (s : ByteArray) (i : Nat) : (decide (sb s i = 32) || decide (sb s i = 9)) = blkB (byt s i) := by
  unfold blkB
  have e1 : decide (sb s i = 32) = decide (byt s i = 32) := by rw [decide_eq_decide]; exact sbE s i 32
  have e2 : decide (sb s i = 9) = decide (byt s i = 9) := by rw [decide_eq_decide]; exact sbE s i 9
  rw [e1, e2]
theorem toNat_sc (i : Nat) : ((i : Int) + 1).toNat = i + 1 := rfl
abbrev tl (s : ByteArray) : List UInt8 := s.data.toList
theorem tl_nil (s : ByteArray) : tl s = [] ↔ s.size = 0 := by
  rw [← List.length_eq_zero_iff, size_l]
structure WS (s : ByteArray) where
  i : Nat
  out : List ByteArray
  one : ByteArray
  hi : i ≤ s.size + 1
  hl : out.length ≤ i
  hz : one.size ≤ i
  same : i ≤ s.size → out.map tl ++ wordsG (tl one) ((tl s).drop i) = wordsG [] (tl s)
  fin : i = s.size + 1 → out.map tl = wordsG [] (tl s)
def outW (out : List ByteArray) (one : ByteArray) : List ByteArray := if 0 < one.size then out ++ [one] else out
theorem out_step {s one : ByteArray} {i : Nat} {out : List ByteArray} (hi : i ≤ s.size) (h : out.map tl ++ wordsG (tl one) ((tl s).drop i) = wordsG [] (tl s)) (hb : i = s.size ∨ blkB (byt s i) = true) :
    (i < s.size → (outW out one).map tl ++ wordsG [] ((tl s).drop (i + 1)) = wordsG [] (tl s)) ∧ (i = s.size → (outW out one).map tl = wordsG [] (tl s)) := by
  have hn := tl_nil one
  constructor
  · intro hlt
    have hbl : blkB (byt s i) = true := hb.elim (fun e => by omega) id
    rw [show (tl s).drop i = byt s i :: (tl s).drop (i + 1) from drop_byt hlt, wordsG, if_pos hbl] at h
    unfold outW
    by_cases h0 : one.size = 0
    · rw [if_pos (hn.2 h0)] at h
      rw [if_neg (by omega)]; exact h
    · rw [if_neg (fun e => h0 (hn.1 e))] at h
      rw [if_pos (by omega), ← h]; simp
  · intro e
    subst e
    rw [show (tl s).drop s.size = [] from List.drop_eq_nil_of_le (by rw [size_l]; exact Nat.le_refl _), wordsG] at h
    unfold outW
    by_cases h0 : one.size = 0
    · rw [if_pos (hn.2 h0)] at h
      rw [if_neg (by omega), ← h]; simp
    · rw [if_neg (fun e => h0 (hn.1 e))] at h
      rw [if_pos (by omega), ← h]; simp
theorem map_tl_inj : ∀ {a b : List ByteArray}, a.map tl = b.map tl → a = b
  | [], [], _ => rfl
  | [], _ :: _, h => by cases h
  | _ :: _, [], h => by cases h
  | x :: a, y :: b, h => by
    simp only [List.map_cons, List.cons.injEq] at h
    rw [map_tl_inj h.2, show x = y by rw [ba_eq x, ba_eq y, show x.data.toList = y.data.toList from h.1]]
set_option maxHeartbeats 4000000 in
theorem rwords_spec (s : ByteArray) (hs : s.size ≤ 4294967296) : Pure PG 29 [vs s] (vSs (fieldsL s)) [] := by
  refine Proc.mk (cfg 43) tysOK [] Tryd.func29 rfl (by kernel_rfl) rfl rfl rfl ?_
  intro C x
  refine x.toLoop rfl trivial ?_
  refine Go.own 3 9 1 (fun i => [.str (([] : List ByteArray).getD i .empty)]) rfl ?_
  refine x.loop (α := WS s) (fun y => ⟨[(0, vs s), (3, .own 0), (4, vs y.one), (5, vi (y.i : Int))], [(0, vecS y.out)], 1⟩) (fun y => s.size + 1 - y.i) ⟨0, [], .empty, by omega, by simp, by show 0 ≤ 0; omega, fun _ => rfl, fun h => by omega⟩ rfl trivial ⟨⟨rfl, rfl, rfl, rfl, trivial⟩, ⟨⟨rfl, rfl, rfl, fun _ h => absurd h (Nat.not_lt_zero _)⟩, trivial⟩, rfl⟩ (fun y => ?_)
  obtain ⟨i, out, one, hi, hl, hz, same, fin⟩ := y
  change Go C _ ⟨[(0, vs s), (3, .own 0), (4, vs one), (5, vi (i : Int))], [(0, vecS out)], 1⟩ _
  refine x.cond rfl trivial (fun h1 => ?_) (fun h1 => ?_)
  rotate_left
  · have h1 : i = s.size + 1 := by have := of_decide_eq_false h1; omega
    have e : out = fieldsL s := map_tl_inj (by rw [fin h1]; exact (fields_words s).symm)
    subst e
    refine Sx.Go.freeze 0 ?_
    exact x.exit rfl trivial ⟨.inr rfl, veq_d rfl, trivial, rfl⟩
  have h1 : i ≤ s.size := by have := of_decide_eq_true h1; omega
  have e0 : decide ((i : Int) = (s.size : Int)) = decide (i = s.size) := by rw [decide_eq_decide]; omega
  refine x.cond rfl ?_ (fun h2 => ?_) (fun h2 => ?_)
  · refine ⟨fun h => ?_, fun h => ?_⟩
    · have := of_decide_eq_false h; omega
    · simp only [Bool.or_eq_false_iff, decide_eq_false_iff_not] at h; omega
  · have h2 : ((decide ((i : Int) = (s.size : Int)) || decide (sb s i = 32)) || decide (sb s i = 9)) = true := h2
    rw [Bool.or_assoc, blkE, e0, Bool.or_eq_true, decide_eq_true_eq] at h2
    obtain ⟨n1, n2⟩ := out_step h1 (same h1) h2
    refine x.cond rfl trivial (fun h3 => ?_) (fun h3 => ?_)
    · have h3 : 0 < one.size := by have := of_decide_eq_true h3; omega
      rw [outW, if_pos h3] at n1 n2
      refine x.back rfl ?_ ⟨⟨i + 1, out ++ [one], .empty, by omega, by simp; omega, by show 0 ≤ _; omega, fun h => n1 (by omega), fun h => n2 (by omega)⟩, by show s.size + 1 - (i + 1) < s.size + 1 - i; omega, ⟨rfl, rfl, rfl, (show VEq0 (vi ((i : Int) + 1)) (vi ((i + 1 : Nat) : Int)) by rw [Int.natCast_add]; rfl), trivial⟩, ⟨⟨rfl, rfl, by simp, fun j hj => app_gen6 (fun t => [D.str t]) 1 (fun _ => rfl) .empty out one j hj⟩, trivial⟩, rfl⟩
      simp only [AllP, big, inI64]; omega
    · have h3 : ¬ 0 < one.size := by have := of_decide_eq_false h3; omega
      rw [outW, if_neg h3] at n1 n2
      refine x.back rfl ?_ ⟨⟨i + 1, out, .empty, by omega, by omega, by show 0 ≤ _; omega, fun h => n1 (by omega), fun h => n2 (by omega)⟩, by show s.size + 1 - (i + 1) < s.size + 1 - i; omega, ⟨rfl, rfl, rfl, (show VEq0 (vi ((i : Int) + 1)) (vi ((i + 1 : Nat) : Int)) by rw [Int.natCast_add]; rfl), trivial⟩, ⟨⟨rfl, rfl, rfl, fun _ _ => rfl⟩, trivial⟩, rfl⟩
      simp only [AllP, inI64]; omega
  · have h2 : ((decide ((i : Int) = (s.size : Int)) || decide (sb s i = 32)) || decide (sb s i = 9)) = false := h2
    rw [Bool.or_assoc, blkE, e0, Bool.or_eq_false_iff, decide_eq_false_iff_not] at h2
    have hlt : i < s.size := by omega
    have hone : tl (one ++ s.extract i (i + 1)) = tl one ++ [byt s i] := by
      rw [tl, app_data, ext_l, drop_byt hlt, show i + 1 - i = 1 by omega]; rfl
    refine x.back rfl ?_ ⟨⟨i + 1, out, one ++ s.extract i (i + 1), by omega, by omega, by rw [app_size, ByteArray.size_extract]; omega, fun _ => ?_, fun h => by omega⟩, by show s.size + 1 - (i + 1) < s.size + 1 - i; omega, ⟨rfl, rfl, rfl, (show VEq0 (vi ((i : Int) + 1)) (vi ((i + 1 : Nat) : Int)) by rw [Int.natCast_add]; rfl), trivial⟩, ⟨⟨rfl, rfl, rfl, fun _ _ => rfl⟩, trivial⟩, rfl⟩
    · simp only [AllP, inI64, Int.toNat_natCast, toNat_sc, app_size, ByteArray.size_extract]; omega
    · have := same h1
      rw [show (tl s).drop i = byt s i :: (tl s).drop (i + 1) from drop_byt hlt, wordsG, if_neg (by rw [h2.2]; simp)] at this
      rw [hone]; exact this

/-! ### where the first word begins -/
theorem lead_le : ∀ l : List UInt8, lead l ≤ l.length
  | [] => Nat.le_refl _
  | b :: r => by
    have := lead_le r
    rw [lead]; split <;> simp <;> omega
theorem rfirst_spec (s : ByteArray) (hs : s.size ≤ 4294967296) : Pure PG 31 [vs s] (vi (lead (tl s) : Int)) [] := by
  refine Proc.mk (cfg 23) tysOK [] Tryd.func31 rfl (by kernel_rfl) rfl rfl rfl ?_
  intro C x
  refine x.loop (α := { i : Nat // i ≤ s.size ∧ i + lead ((tl s).drop i) = lead (tl s) }) (fun y => ⟨[(0, vs s), (3, vi (y.1 : Int))], [], 0⟩) (fun y => s.size - y.1) ⟨0, by omega, by simp⟩ rfl trivial ⟨⟨rfl, rfl, trivial⟩, trivial, rfl⟩ (fun y => ?_)
  obtain ⟨i, hi, hsame⟩ := y
  change Go C _ ⟨[(0, vs s), (3, vi (i : Int))], [], 0⟩ _
  have e0 : decide ((i : Int) < (s.size : Int)) = decide (i < s.size) := by rw [decide_eq_decide]; omega
  refine x.cond rfl ?_ (fun h2 => ?_) (fun h2 => ?_)
  · exact ⟨fun h => by have := of_decide_eq_true h; omega, fun h => by have := of_decide_eq_true h; exact fun _ => by omega⟩
  · have h2 : (decide ((i : Int) < (s.size : Int)) && (decide (sb s i = 32) || decide (sb s i = 9))) = true := h2
    rw [blkE, e0, Bool.and_eq_true, decide_eq_true_eq] at h2
    rw [show (tl s).drop i = byt s i :: (tl s).drop (i + 1) from drop_byt h2.1, lead, if_pos h2.2] at hsame
    refine x.back rfl ?_ ⟨⟨i + 1, by omega, by omega⟩, by show s.size - (i + 1) < s.size - i; omega, ⟨rfl, (show VEq0 (vi ((i : Int) + 1)) (vi ((i + 1 : Nat) : Int)) by rw [Int.natCast_add]; rfl), trivial⟩, trivial, rfl⟩
    simp only [AllP, inI64]; omega
  · have h2 : (decide ((i : Int) < (s.size : Int)) && (decide (sb s i = 32) || decide (sb s i = 9))) = false := h2
    rw [blkE, e0] at h2
    have e : lead ((tl s).drop i) = 0 := by
      by_cases hlt : i < s.size
      · rw [decide_eq_true hlt, Bool.true_and] at h2
        rw [show (tl s).drop i = byt s i :: (tl s).drop (i + 1) from drop_byt hlt, lead, if_neg (by rw [h2]; simp)]
      · rw [List.drop_eq_nil_of_le (by rw [size_l]; omega)]; rfl
    refine x.exit rfl trivial ⟨.inr rfl, ?_, trivial, rfl⟩
    show VEq0 (vi (i : Int)) (vi (lead (tl s) : Int))
    rw [← hsame, e]; exact rfl
theorem rname6_spec (s : ByteArray) (hs : s.size ≤ 9223372036854775807) : Pure PG 56 [vs s] (vb (nameB s)) [] := by
  refine Proc.mk (cfg 10) tysOK [] Tryd.func56 rfl (by kernel_rfl) rfl rfl rfl ?_
  intro C x
  refine x.pure rfl trivial rfl (ref_name_spec s hs) ⟨rfl, trivial⟩ ?_
  refine x.pureG rfl trivial rfl (fun _ => refword_spec s) rfl ⟨rfl, trivial⟩ ?_
  refine x.exit rfl trivial ⟨.inr rfl, ?_, trivial, rfl⟩
  show VEq0 (vb (refNameV s && !wordB s)) (vb (nameB s))
  rw [nameB, name_eq]; exact rfl
end Go.Proofs.YtcdfjaaipbjpnaaDoor

/- A number out of its text: the reference's; both answer alike. -/
namespace Go.Proofs.YtcdfjaaipbjpnaaDoor
open Go.Sx
set_option linter.unusedVariables false
set_option linter.unusedSimpArgs false
set_option maxRecDepth 100000

def frV (s : ByteArray) : Nat := if 0 < s.size ∧ bt s 0 = 45 then 1 else 0
theorem frV_le (s : ByteArray) : frV s ≤ 1 := by unfold frV; split <;> omega
theorem frV_size (s : ByteArray) : frV s ≤ s.size := by unfold frV; split <;> omega
def backN (s : ByteArray) (u : Nat) : Int := if frV s = 1 then IntKind.i64.wrap (IntKind.u64.wrap (0 - (u : Int))) else IntKind.i64.wrap (u : Int)
def refNumV (s : ByteArray) : Int × Bool :=
  if s.size = frV s ∨ frV s + 19 < s.size then (0, false)
  else match dv s s.size (frV s) 0 with
    | none => (0, false)
    | some u => if (showV (backN s u)).data.toList = s.data.toList then (backN s u, true) else (0, false)

theorem backN_in (s : ByteArray) (u : Nat) : inI64 (backN s u) := by
  unfold backN inI64
  split
  · rw [IntKind.wrap_i64]; omega
  · rw [IntKind.wrap_i64]; omega

structure XI (s : ByteArray) where
  n : Nat
  i : Nat
  u : Nat
  fuel : s.size ≤ i + n
  same : dv s n i u = dv s s.size (frV s) 0
  hi : frV s ≤ i ∧ i ≤ s.size
  hu : u < 10 ^ (i - frV s)

theorem ref_number_spec (s : ByteArray) (hs : s.size ≤ 9223372036854775807) : Pure PG 55 [vs s] (.tup [vi (refNumV s).1, vb (refNumV s).2]) [] := by
  refine Proc.mk ⟨64, 0, false, tys⟩ tysOK [] Tryd.func55 rfl (by kernel_rfl) rfl rfl rfl ?_
  intro C x
  have hfr := frV_le s
  refine x.ite (α := Unit) (fun _ => ⟨[(0, vs s), (4, vi (frV s : Int))], [], 0⟩) rfl (fun h => by simp only [decide_eq_true_eq] at h; exact ⟨by omega, h⟩) (fun h => ?_) (fun h => ?_) (fun _ => ?_)
  · refine x.back rfl trivial ⟨(), ⟨rfl, ?_, trivial⟩, trivial, rfl⟩
    show (1 : Int) = (frV s : Int)
    simp only [Bool.and_eq_true, decide_eq_true_eq] at h
    rw [show sb s (Int.toNat 0) = (bt s 0 : Int) from sb_bt s 0] at h
    rw [frV, if_pos (by omega)]
    rfl
  · refine x.back rfl trivial ⟨(), ⟨rfl, ?_, trivial⟩, trivial, rfl⟩
    show (0 : Int) = (frV s : Int)
    simp only [Bool.and_eq_false_iff, decide_eq_false_iff_not] at h
    rw [show sb s (Int.toNat 0) = (bt s 0 : Int) from sb_bt s 0] at h
    rw [frV, if_neg (by omega)]
    rfl
  have hw : IntKind.i64.wrap ((frV s : Int) + 19) = (frV s : Int) + 19 := by rw [IntKind.wrap_i64]; omega
  refine x.cond rfl trivial (fun h => ?_) (fun h => ?_)
  · refine x.exit rfl trivial ?_
    refine ⟨.inr rfl, ?_, trivial, rfl⟩
    simp only [Bool.or_eq_true, decide_eq_true_eq, hw] at h
    rw [refNumV, if_pos (by omega)]
    exact ⟨rfl, rfl, trivial⟩
  have hno : ¬ (s.size = frV s ∨ frV s + 19 < s.size) := by
    simp only [Bool.or_eq_false_iff, decide_eq_false_iff_not, hw] at h
    omega
  refine x.loop (α := XI s) (fun y => ⟨[(0, vs s), (4, vi (frV s : Int)), (5, .d (.int .u64 (y.u : Int))), (6, vi (y.i : Int))], [], 0⟩) (fun y => s.size - y.i) ⟨s.size, frV s, 0, by omega, rfl, ⟨Nat.le_refl _, frV_size s⟩, by simp⟩ rfl trivial ?_ (fun y => ?_)
  · exact ⟨⟨rfl, rfl, rfl, rfl, trivial⟩, trivial, rfl⟩
  obtain ⟨n, i, u, fuel, same, hi, hu⟩ := y
  change Go C _ ⟨[(0, vs s), (4, vi (frV s : Int)), (5, .d (.int .u64 (u : Int))), (6, vi (i : Int))], [], 0⟩ _
  have hsb : sb s (i : Int).toNat = (bt s i : Int) := by rw [Int.toNat_natCast]; exact sb_bt s i
  refine x.cond rfl trivial (fun h => ?_) (fun h => ?_)
  · have h' : i < s.size := by simpa using h
    have hpow : 10 ^ (i - frV s + 1) ≤ 10 ^ 19 := Nat.pow_le_pow_right (by omega) (by omega)
    cases n with
    | zero => omega
    | succ n =>
    rw [dv, if_pos h'] at same
    refine x.cond rfl ?_ (fun h2 => ?_) (fun h2 => ?_)
    · simp only [AllP]; omega
    · simp only [Bool.or_eq_true, decide_eq_true_eq, hsb] at h2
      rw [if_neg (by omega)] at same
      refine x.exit rfl trivial ?_
      refine ⟨.inr rfl, ?_, trivial, rfl⟩
      rw [refNumV, if_neg hno, ← same]
      exact ⟨rfl, rfl, trivial⟩
    · simp only [Bool.or_eq_false_iff, decide_eq_false_iff_not, hsb] at h2
      have hdg : 48 ≤ bt s i ∧ bt s i ≤ 57 := by omega
      rw [if_pos hdg] at same
      have hu' : 10 * u + (bt s i - 48) < 10 ^ (i - frV s + 1) := by rw [Nat.pow_succ]; omega
      refine x.back rfl ?_ ?_
      · simp only [AllP]; omega
      refine ⟨⟨n, i + 1, 10 * u + (bt s i - 48), by omega, same, by omega, by rw [show i + 1 - frV s = i - frV s + 1 by omega]; exact hu'⟩, by show s.size - (i + 1) < s.size - i; omega, ⟨rfl, rfl, ?_, ?_, trivial⟩, trivial, rfl⟩
      · show IntKind.u64.wrap (IntKind.u64.wrap ((u : Int) * 10) + IntKind.u64.wrap (IntKind.u8.wrap (sb s (i : Int).toNat - 48))) = ((10 * u + (bt s i - 48) : Nat) : Int)
        rw [hsb, IntKind.wrap_u64, IntKind.wrap_u64, IntKind.wrap_u64, IntKind.wrap_u8]
        omega
      · show IntKind.i64.wrap ((i : Int) + 1) = ((i + 1 : Nat) : Int)
        rw [IntKind.wrap_i64]
        omega
  · have h' : ¬ i < s.size := by simpa using h
    rw [dv_end h'] at same
    have hr : refNumV s = if (showV (backN s u)).data.toList = s.data.toList then (backN s u, true) else (0, false) := by
      rw [refNumV, if_neg hno, ← same]
    refine x.ite (α := Unit) (fun _ => ⟨[(0, vs s), (7, vi (backN s u))], [], 0⟩) rfl trivial (fun h2 => ?_) (fun h2 => ?_) (fun _ => ?_)
    · refine x.back rfl trivial ⟨(), ⟨rfl, ?_, trivial⟩, trivial, rfl⟩
      show _ = backN s u
      rw [backN, if_pos (by simp at h2; omega)]
    · refine x.back rfl trivial ⟨(), ⟨rfl, ?_, trivial⟩, trivial, rfl⟩
      show _ = backN s u
      rw [backN, if_neg (by simp at h2; omega)]
    refine x.pure rfl trivial rfl (ref_show_spec _ (backN_in s u)) ⟨rfl, trivial⟩ ?_
    rw [hr]
    refine x.cond rfl trivial (fun h3 => ?_) (fun h3 => ?_)
    · refine x.exit rfl trivial ?_
      refine ⟨.inr rfl, ?_, trivial, rfl⟩
      rw [if_neg (by simpa using h3)]
      exact ⟨rfl, rfl, trivial⟩
    · refine x.exit rfl trivial ?_
      refine ⟨.inr rfl, ?_, trivial, rfl⟩
      rw [if_pos (by simpa using h3)]
      exact ⟨rfl, rfl, trivial⟩
end Go.Proofs.YtcdfjaaipbjpnaaDoor

/- Numbers: both answer alike; what is written is read. The laws. -/
namespace Go.Proofs.YtcdfjaaipbjpnaaDoor
open Go.Sx
set_option linter.unusedVariables false
set_option linter.unusedSimpArgs false
set_option maxRecDepth 100000

def dvl : List UInt8 → Nat → Option Nat
  | [], u => some u
  | c :: r, u => if 48 ≤ c.toNat ∧ c.toNat ≤ 57 then dvl r (10 * u + (c.toNat - 48)) else none

theorem len_size (s : ByteArray) : s.data.toList.length = s.size := Array.length_toList
theorem bt_list (s : ByteArray) (i : Nat) (h : i < s.size) : ∃ c, s.data.toList[i]? = some c ∧ bt s i = c.toNat := by
  have h' : i < s.data.size := h
  refine ⟨s.data[i], by simp [h'], ?_⟩
  unfold bt
  cases s with
  | mk d => show d[i]!.toNat = _; rw [getElem!_pos d i h']

theorem dv_list (s : ByteArray) : ∀ (n i u : Nat), s.size ≤ i + n → dv s n i u = dvl (s.data.toList.drop i) u
  | 0, i, u, h => by
    rw [dv, List.drop_eq_nil_of_le (by rw [len_size]; omega)]
    rfl
  | n + 1, i, u, h => by
    rw [dv]
    by_cases hi : i < s.size
    · obtain ⟨c, hc, hb⟩ := bt_list s i hi
      have hl : i < s.data.toList.length := (List.getElem?_eq_some_iff.1 hc).1
      rw [if_pos hi, List.drop_eq_getElem_cons hl, (List.getElem?_eq_some_iff.1 hc).2, dvl, hb, dv_list s n (i + 1) _ (by omega)]
    · rw [if_neg hi, List.drop_eq_nil_of_le (by rw [len_size]; omega)]
      rfl

theorem dvl_app : ∀ (l : List UInt8) (c : UInt8) (u : Nat), dvl (l ++ [c]) u = (dvl l u).bind fun v => if 48 ≤ c.toNat ∧ c.toNat ≤ 57 then some (10 * v + (c.toNat - 48)) else none
  | [], c, u => rfl
  | x :: l, c, u => by
    rw [List.cons_append, dvl, dvl]
    split
    · exact dvl_app l c _
    · rfl

theorem dvl_lt : ∀ (l : List UInt8) (u v : Nat), dvl l u = some v → v < (u + 1) * 10 ^ l.length
  | [], u, v, h => by simp [dvl] at h; simp; omega
  | c :: l, u, v, h => by
    rw [dvl] at h
    split at h
    · have := dvl_lt l _ _ h
      rw [List.length_cons, Nat.pow_succ, Nat.mul_comm _ 10, ← Nat.mul_assoc]
      refine Nat.lt_of_lt_of_le this (Nat.mul_le_mul_right _ ?_)
      omega
    · cases h

theorem u8_dig (v : Nat) (h : v < 10) : (UInt8.ofNat (48 + v)).toNat = 48 + v := by
  rw [UInt8.toNat_ofNat']
  omega

theorem digs_head : ∀ (u : Nat), ∃ c r, digs u = c :: r ∧ 48 ≤ c.toNat ∧ c.toNat ≤ 57 ∧ (0 < u → c.toNat ≠ 48) := by
  intro u
  induction u using Nat.strongRecOn with
  | _ u ih =>
    by_cases h : u < 10
    · refine ⟨_, [], digs_lt h, ?_⟩
      rw [u8_dig u h]
      omega
    · obtain ⟨c, r, h1, h2, h3, h4⟩ := ih (u / 10) (by omega)
      exact ⟨c, r ++ [_], by rw [digs_ge h, h1]; rfl, h2, h3, fun _ => h4 (by omega)⟩

theorem dvl_digs : ∀ (u : Nat), dvl (digs u) 0 = some u := by
  intro u
  induction u using Nat.strongRecOn with
  | _ u ih =>
    by_cases h : u < 10
    · rw [digs_lt h, dvl, u8_dig u h, if_pos (by omega)]
      show some _ = some _
      congr 1
      omega
    · rw [digs_ge h, dvl_app, ih (u / 10) (by omega), u8_dig _ (by omega)]
      show (if _ then some _ else none) = _
      rw [if_pos (by omega)]
      congr 1
      omega

theorem u8_of (c : UInt8) : UInt8.ofNat c.toNat = c := by simp

theorem canon : ∀ (k : Nat) (l : List UInt8) (u : Nat), l.length = k → l ≠ [] → dvl l 0 = some u → (l.head? ≠ some 48 ∨ l.length = 1) → digs u = l := by
  intro k
  induction k with
  | zero => intro l u hk hl; exact absurd (List.length_eq_zero_iff.1 hk) hl
  | succ k ih =>
    intro l u hk hl h hh
    obtain ⟨l', c, rfl⟩ : ∃ l' c, l = l' ++ [c] := ⟨l.dropLast, l.getLast hl, (List.dropLast_concat_getLast hl).symm⟩
    rw [dvl_app] at h
    cases hv : dvl l' 0 with
    | none => rw [hv] at h; cases h
    | some v =>
      rw [hv] at h
      have h : (if 48 ≤ c.toNat ∧ c.toNat ≤ 57 then some (10 * v + (c.toNat - 48)) else none) = some u := h
      split at h
      · rename_i hc
        simp only [Option.some.injEq] at h
        by_cases hl' : l' = []
        · subst hl'
          simp only [dvl, Option.some.injEq] at hv
          subst hv
          rw [digs_lt (by omega), show 48 + u = c.toNat by omega, u8_of]
          rfl
        · have hne : l'.head? ≠ some 48 := by
            rcases hh with hh | hh
            · intro e
              apply hh
              cases l' with
              | nil => exact absurd rfl hl'
              | cons a b => simpa using e
            · exfalso
              simp at hh
              exact hl' hh
          have hd := ih l' v (by simp at hk; omega) hl' hv (.inl hne)
          have hv0 : v ≠ 0 := by
            rintro rfl
            rw [digs_lt (by omega)] at hd
            rw [← hd] at hne
            exact hne rfl
          rw [digs_ge (by omega), show u / 10 = v by omega, hd, show 48 + u % 10 = c.toNat by omega, u8_of]
      · cases h

theorem cut_neg {s : ByteArray} {r : List UInt8} (h : s.data.toList = 45 :: r) : cutV s ⟨#[45]⟩ = (ba r, true) := by
  have hs : s.size = r.length + 1 := by rw [show s.size = s.data.toList.length from (Array.length_toList).symm, h]; rfl
  have e1 : (s.extract 0 (ByteArray.size ⟨#[45]⟩)).data.toList = [45] := by
    rw [ByteArray.data_extract, Array.toList_extract, h]; rfl
  have e2 : s.extract (ByteArray.size ⟨#[45]⟩) s.size = ba r := by
    apply ByteArray.ext
    apply Array.toList_inj.1
    rw [ByteArray.data_extract, Array.toList_extract, h, hs]
    simp [ba, ByteArray.size, List.extract]
  rw [cutV, if_pos, e2]
  rw [e1]
  simp only [Bool.and_eq_true, decide_eq_true_eq]
  exact ⟨by rw [hs]; show (1 : Int) ≤ _; omega, trivial⟩
theorem cut_pos {s : ByteArray} (h : s.data.toList.head? ≠ some 45) : cutV s ⟨#[45]⟩ = (s, false) := by
  rw [cutV, if_neg]
  simp only [Bool.and_eq_true, decide_eq_true_eq]
  rintro ⟨h1, h2⟩
  apply h
  rw [ByteArray.data_extract, Array.toList_extract] at h2
  cases hl : s.data.toList with
  | nil => rw [hl] at h2; cases h2
  | cons a b =>
    rw [hl] at h2
    have : [a] = [45] := h2
    simp at this
    simp [this]

theorem bt0_head {s : ByteArray} {c : UInt8} {r : List UInt8} (h : s.data.toList = c :: r) : bt s 0 = c.toNat ∧ s.size = r.length + 1 := by
  have hs : s.size = r.length + 1 := by rw [show s.size = s.data.toList.length from (Array.length_toList).symm, h]; rfl
  obtain ⟨d, hd, hb⟩ := bt_list s 0 (by omega)
  rw [h] at hd
  simp at hd
  subst hd
  exact ⟨hb, hs⟩
theorem u8_eq {c : UInt8} {n : Nat} (hn : n < 256) : c.toNat = n ↔ c = UInt8.ofNat n := by
  constructor
  · rintro rfl; exact (u8_of c).symm
  · rintro rfl; rw [UInt8.toNat_ofNat']; omega

theorem numV_neg {s : ByteArray} {r : List UInt8} (h : s.data.toList = 45 :: r) :
    numV s = if r.length = 0 ∨ 19 < r.length ∨ r.head? = some 48 then (0, false) else match dvl r 0 with
      | none => (0, false)
      | some u => if u ≤ 9223372036854775808 then (-(u : Int), true) else (0, false) := by
  have hc := cut_neg h
  have hd : dv (ba r) r.length 0 0 = dvl r 0 := by rw [dv_list _ _ _ _ (by rw [ba_size]; omega)]; rfl
  unfold numV
  rw [hc]
  simp only [ba_size, hd]
  cases r with
  | nil => rw [if_pos (by simp), if_pos (by simp)]
  | cons c r =>
    have hb : bt (ba (c :: r)) 0 = c.toNat := (bt0_head (s := ba (c :: r)) rfl).1
    have h48 : c.toNat = 48 ↔ (c :: r).head? = some 48 := by rw [u8_eq (by omega)]; simp
    refine ite_cg (by rw [hb, h48]; simp) rfl ?_
    cases dvl (c :: r) 0 <;> simp

theorem numV_pos {s : ByteArray} {l : List UInt8} (hl : s.data.toList = l) (h : l.head? ≠ some 45) :
    numV s = if l.length = 0 ∨ 19 < l.length ∨ (l.head? = some 48 ∧ 1 < l.length) then (0, false) else match dvl l 0 with
      | none => (0, false)
      | some u => if u < 9223372036854775808 then ((u : Int), true) else (0, false) := by
  subst hl
  have hc := cut_pos h
  have hs : s.size = s.data.toList.length := (Array.length_toList).symm
  have hd : dv s s.size 0 0 = dvl s.data.toList 0 := by rw [dv_list _ _ _ _ (by omega)]; rfl
  unfold numV
  rw [hc]
  simp only [hd]
  rw [hs]
  cases hl : s.data.toList with
  | nil => rw [if_pos (by simp), if_pos (by simp)]
  | cons c r =>
    have hb := (bt0_head hl).1
    have h48 : c.toNat = 48 ↔ (c :: r).head? = some 48 := by rw [u8_eq (by omega)]; simp
    refine ite_cg (by rw [hb, h48]; simp) rfl ?_
    cases dvl (c :: r) 0 <;> simp

theorem showV_list (n : Int) : (showV n).data.toList = sgV n ++ digs n.natAbs := rfl

theorem num_eq (s : ByteArray) : numV s = refNumV s := by
  have hs : s.size = s.data.toList.length := (Array.length_toList).symm
  by_cases hneg : s.data.toList.head? = some 45
  · obtain ⟨r, hl⟩ : ∃ r, s.data.toList = 45 :: r := by
      cases h : s.data.toList with
      | nil => rw [h] at hneg; cases hneg
      | cons a b => rw [h] at hneg; simp at hneg; exact ⟨b, by rw [hneg]⟩
    have hb := bt0_head hl
    have hfr : frV s = 1 := by rw [frV, if_pos ⟨by omega, hb.1⟩]
    have hd : dv s s.size 1 0 = dvl r 0 := by rw [dv_list _ _ _ _ (by omega), hl]; rfl
    rw [numV_neg hl, refNumV, hfr, hd]
    by_cases h1 : r.length = 0 ∨ 19 < r.length
    · rw [if_pos (by omega), if_pos (by omega)]
    rw [if_neg (c := s.size = 1 ∨ 1 + 19 < s.size) (by omega)]
    have hr0 : r ≠ [] := fun e => h1 (.inl (by rw [e]; rfl))
    cases hv : dvl r 0 with
    | none => simp
    | some u =>
      simp only
      have hlt := dvl_lt r 0 u hv
      have hlt' : u < 10000000000000000000 := Nat.lt_of_lt_of_le hlt (by rw [Nat.zero_add, Nat.one_mul]; exact Nat.pow_le_pow_right (n := 10) (by omega) (show r.length ≤ 19 by omega))
      have hbk : backN s u = if u ≤ 9223372036854775808 then -(u : Int) else 18446744073709551616 - (u : Int) := by
        rw [backN, if_pos hfr, IntKind.wrap_i64, IntKind.wrap_u64]
        split <;> omega
      by_cases h48 : r.head? = some 48
      · rw [if_pos (by simp [h48])]
        rw [if_neg]
        rw [showV_list, hl]
        intro e
        obtain ⟨c, q, e1, e2, e3, e4⟩ := digs_head (backN s u).natAbs
        rw [sgV] at e
        split at e
        · rename_i hn
          rw [e1] at e
          simp at e
          rw [← e] at h48
          simp at h48
          rw [h48] at e4
          exact e4 (by omega) rfl
        · rw [e1] at e
          simp at e
          rw [e.1] at e2
          simp at e2
      · rw [if_neg (fun h => h.elim (fun h => h1 (.inl h)) fun h => h.elim (fun h => h1 (.inr h)) h48)]
        have hcan := canon r.length r u rfl hr0 hv (.inl h48)
        have hu0 : u ≠ 0 := by
          rintro rfl
          rw [digs_lt (by omega)] at hcan
          rw [← hcan] at h48
          exact h48 rfl
        by_cases hu : u ≤ 9223372036854775808
        · rw [if_pos hu] at hbk
          rw [if_pos hu, if_pos, hbk]
          rw [hbk, showV_list, hl, sgV, if_pos (by omega), show (-(u : Int)).natAbs = u by omega, hcan]
          rfl
        · rw [if_neg hu] at hbk
          rw [if_neg hu, if_neg]
          rw [hbk, showV_list, hl, sgV, if_neg (by omega)]
          intro e
          obtain ⟨c, q, e1, e2, e3, e4⟩ := digs_head (18446744073709551616 - (u : Int)).natAbs
          rw [e1] at e
          simp at e
          rw [e.1] at e2
          simp at e2
  · have hfr : frV s = 0 := by
      rw [frV, if_neg]
      rintro ⟨h1, h2⟩
      cases hl : s.data.toList with
      | nil => rw [hl] at hs; simp only [List.length_nil] at hs; omega
      | cons c r =>
        have hb := (bt0_head hl).1
        rw [hl] at hneg
        apply hneg
        rw [hb] at h2
        simp [(u8_eq (c := c) (n := 45) (by omega)).1 h2]
    have hd : dv s s.size 0 0 = dvl s.data.toList 0 := by rw [dv_list _ _ _ _ (by omega)]; rfl
    rw [numV_pos rfl hneg, refNumV, hfr, hd]
    generalize hl : s.data.toList = l at *
    by_cases h1 : l.length = 0 ∨ 19 < l.length
    · rw [if_pos (by omega), if_pos (by omega)]
    rw [if_neg (c := s.size = 0 ∨ 0 + 19 < s.size) (by omega)]
    have hr0 : l ≠ [] := fun e => h1 (.inl (by rw [e]; rfl))
    cases hv : dvl l 0 with
    | none => simp
    | some u =>
      simp only
      have hlt := dvl_lt l 0 u hv
      have hlt' : u < 10000000000000000000 := Nat.lt_of_lt_of_le hlt (by rw [Nat.zero_add, Nat.one_mul]; exact Nat.pow_le_pow_right (n := 10) (by omega) (show l.length ≤ 19 by omega))
      have hbk : backN s u = if u < 9223372036854775808 then (u : Int) else (u : Int) - 18446744073709551616 := by
        rw [backN, if_neg (by omega), IntKind.wrap_i64]
        split <;> omega
      by_cases hu : u < 9223372036854775808
      · rw [if_pos hu] at hbk
        rw [if_pos hu]
        by_cases h48 : l.head? = some 48 ∧ 1 < l.length
        · rw [if_pos (by simp [h48]), if_neg]
          rw [hbk, showV_list, sgV, if_neg (by omega), show ((u : Int)).natAbs = u by omega]
          intro e
          simp only [List.nil_append] at e
          by_cases hu0 : u = 0
          · subst hu0
            rw [digs_lt (by omega)] at e
            rw [← e] at h48
            simp at h48
          · obtain ⟨c, q, e1, e2, e3, e4⟩ := digs_head u
            rw [← e, e1] at h48
            simp at h48
            rw [h48.1] at e4
            exact e4 (by omega) rfl
        · rw [if_neg (fun h => h.elim (fun h => h1 (.inl h)) fun h => h.elim (fun h => h1 (.inr h)) h48)]
          have hcan := canon l.length l u rfl hr0 hv (by
            by_cases e : l.head? = some 48
            · exact .inr (by have : ¬ 1 < l.length := fun h => h48 ⟨e, h⟩
                             omega)
            · exact .inl e)
          rw [if_pos, hbk]
          rw [hbk, showV_list, sgV, if_neg (by omega), show ((u : Int)).natAbs = u by omega, hcan]
          rfl
      · rw [if_neg hu] at hbk
        rw [if_neg hu, if_neg (c := (showV (backN s u)).data.toList = l)]
        · split <;> rfl
        · rw [hbk, showV_list, sgV, if_pos (by omega)]
          intro e
          rw [← e] at hneg
          exact hneg rfl

theorem num_back (n : Int) (hn : inI64 n) : numV (showV n) = (n, true) := by
  unfold inI64 at hn
  obtain ⟨c, q, e1, e2, e3, e4⟩ := digs_head n.natAbs
  have hlen := digs_len 18 n.natAbs (by show n.natAbs < 10000000000000000000; omega)
  by_cases h0 : n < 0
  · have hl : (showV n).data.toList = 45 :: digs n.natAbs := by rw [showV_list, sgV, if_pos h0]; rfl
    have h48 : (digs n.natAbs).head? ≠ some 48 := by
      rw [e1]
      intro e
      simp at e
      exact e4 (by omega) (by rw [e]; rfl)
    rw [numV_neg hl, if_neg, dvl_digs]
    · simp only
      rw [if_pos (by omega)]
      congr 1
      omega
    · rintro (h | h | h)
      · rw [e1] at h; simp at h
      · omega
      · exact h48 h
  · have hl : (showV n).data.toList = digs n.natAbs := by rw [showV_list, sgV, if_neg h0]; rfl
    have h45 : (digs n.natAbs).head? ≠ some 45 := by
      rw [e1]
      intro e
      simp at e
      rw [e] at e2
      simp at e2
    rw [numV_pos hl h45, if_neg, dvl_digs]
    · simp only
      rw [if_pos (by omega)]
      congr 1
      omega
    · rintro (h | h | h)
      · rw [e1] at h; simp at h
      · omega
      · by_cases hz : n.natAbs = 0
        · rw [hz, digs_lt (by omega)] at h
          simp at h
        · rw [e1] at h
          simp at h
          exact e4 (by omega) (by rw [h.1]; rfl)

theorem num_one : numV ⟨#[49]⟩ = (1, true) := by
  have : (⟨#[49]⟩ : ByteArray) = showV 1 := by
    unfold showV sgV
    rw [if_neg (by omega), show Int.natAbs 1 = 1 from rfl, digs_lt (by omega)]
    decide +kernel
  rw [this]
  exact num_back 1 (by unfold inI64; omega)
end Go.Proofs.YtcdfjaaipbjpnaaDoor

/- Policies: the answer's Copy, Level and Channel; the examples; the law PolicyFinds. -/
namespace Go.Proofs.YtcdfjaaipbjpnaaDoor
open Go.Sx
set_option linter.unusedVariables false
set_option linter.unusedSimpArgs false
set_option maxRecDepth 100000

structure PolSz (p : Pol) : Prop where
  lev : p.lev.length * 16 ≤ 140737488355328
  up : p.up.length * 8 ≤ 140737488355328
  ins : p.ins.length * 24 ≤ 140737488355328
  outs : p.outs.length * 24 ≤ 140737488355328
theorem sl_app0 {z z' n : Nat} {us : List D} {f : Nat → List D} (hz : z = z') (h : ∀ i, app 0 (tab (List.replicate 0 us)) f i = f i) : D.sl z (0 + n) (app 0 (tab (List.replicate 0 us)) f) = .sl z' n f := by
  subst hz
  rw [Nat.zero_add, show app 0 (tab (List.replicate 0 us)) f = f from funext h]
theorem app0_1 {u : D} (d : Nat → D) (i : Nat) : app 0 (tab (List.replicate 0 [u])) (fun i => [d i]) i = [d i] := by
  show (if i < 0 then [] else [d (i - 0)]) = _
  rw [if_neg (by omega)]; rfl
theorem app0_2 {u v : D} (d e : Nat → D) (i : Nat) : app 0 (tab (List.replicate 0 [u, v])) (fun i => [d i, e i]) i = [d i, e i] := by
  show (if i < 0 then [] else [d (i - 0), e (i - 0)]) = _
  rw [if_neg (by omega)]; rfl
theorem copy6_spec (p : Pol) (h : PolSz p) : Pure PG 13 [vPol p] (vPol p) [] := by
  obtain ⟨h1, h2, h3, h4⟩ := h
  refine Proc.mk (cfg 24) tysOK [] Tryd.func13 rfl (by kernel_rfl) rfl rfl rfl ?_
  intro C x
  refine Go.atExit [2, 3, 4, 5] ?_
  refine x.exit rfl (by simp only [AllP, big]; omega) ?_
  exact ⟨.inr rfl, ⟨veq0_d (sl_app0 rfl (app0_1 _)), veq0_d (sl_app0 rfl (app0_1 _)), veq0_d (sl_app0 rfl (app0_2 _ _)), veq0_d (sl_app0 rfl (app0_2 _ _)), rfl, trivial⟩, trivial, rfl⟩
theorem lev6_spec (l : List ByteArray) (s : ByteArray) (hl : inI64 (l.length : Int)) : Pure PG 17 [.agg [vSs l, .dead, .dead, .dead, .dead], vs s] (vi (idxS l s)) [] := by
  refine Proc.mk (cfg 21) tysOK [] Tryd.func17 rfl (by kernel_rfl) rfl rfl rfl ?_
  intro C x
  unfold inI64 at hl
  refine x.loop (α := { i : Nat // i ≤ l.length ∧ idxF (fun i => decide ((l.getD i .empty).data.toList = s.data.toList)) (l.length - i) i = idxS l s }) (fun y => ⟨[(1, vs s), (2, .ptr 0 0), (5, vi (y.1 : Int))], [(0, .box [vSs l, .dead, .dead, .dead, .dead])], 1⟩) (fun y => l.length - y.1) ⟨0, by omega, rfl⟩ rfl trivial ?_ (fun y => ?_)
  · exact ⟨⟨rfl, ⟨rfl, rfl⟩, rfl, trivial⟩, ⟨⟨veq0_d rfl, rfl, rfl, rfl, rfl, trivial⟩, trivial⟩, rfl⟩
  obtain ⟨i, hi, hsame⟩ := y
  change Go C _ ⟨[(1, vs s), (2, .ptr 0 0), (5, vi (i : Int))], [(0, .box [vSs l, .dead, .dead, .dead, .dead])], 1⟩ _
  refine x.cond rfl trivial (fun h1 => ?_) (fun h1 => ?_)
  · have h1 : i < l.length := by have := of_decide_eq_true h1; omega
    rw [show l.length - i = (l.length - (i + 1)) + 1 by omega, idxF] at hsame
    refine x.cond rfl (by simp only [AllP]; omega) (fun h2 => ?_) (fun h2 => ?_)
    · have h2 : decide ((l.getD i .empty).data.toList = s.data.toList) = true := h2
      rw [if_pos h2] at hsame
      refine x.exit rfl trivial ⟨.inr rfl, ?_, trivial, rfl⟩
      show VEq0 (vi (i : Int)) (vi (idxS l s))
      rw [hsame]; exact rfl
    · have h2 : decide ((l.getD i .empty).data.toList = s.data.toList) = false := h2
      rw [if_neg (by rw [h2]; simp)] at hsame
      refine x.back rfl ?_ ⟨⟨i + 1, by omega, hsame⟩, by show l.length - (i + 1) < l.length - i; omega, ⟨rfl, ⟨rfl, rfl⟩, (show VEq0 (vi ((i : Int) + 1)) (vi ((i + 1 : Nat) : Int)) by rw [Int.natCast_add]; rfl), trivial⟩, ⟨⟨veq0_d rfl, rfl, rfl, rfl, rfl, trivial⟩, trivial⟩, rfl⟩
      simp only [AllP, inI64]; omega
  · have h1 : i = l.length := by have := of_decide_eq_false h1; omega
    refine x.exit rfl trivial ⟨.inr rfl, ?_, trivial, rfl⟩
    show VEq0 (vi (-1)) (vi (idxS l s))
    rw [← hsame, show l.length - i = 0 by omega]; exact rfl
theorem chn6_spec (l : List Chan) (s : ByteArray) (hl : inI64 (l.length : Int)) : Pure PG 18 [vChs l, vs s] (vi (idxC l s)) [] := by
  refine Proc.mk (cfg 20) tysOK [] Tryd.func18 rfl (by kernel_rfl) rfl rfl rfl ?_
  intro C x
  unfold inI64 at hl
  refine x.loop (α := { i : Nat // i ≤ l.length ∧ idxF (fun i => decide ((l.getD i chan0).1.data.toList = s.data.toList)) (l.length - i) i = idxC l s }) (fun y => ⟨[(0, vChs l), (1, vs s), (5, vi (y.1 : Int))], [], 0⟩) (fun y => l.length - y.1) ⟨0, by omega, rfl⟩ rfl trivial ?_ (fun y => ?_)
  · exact ⟨⟨veq_d rfl, rfl, rfl, trivial⟩, trivial, rfl⟩
  obtain ⟨i, hi, hsame⟩ := y
  change Go C _ ⟨[(0, vChs l), (1, vs s), (5, vi (i : Int))], [], 0⟩ _
  refine x.cond rfl trivial (fun h1 => ?_) (fun h1 => ?_)
  · have h1 : i < l.length := by have := of_decide_eq_true h1; omega
    rw [show l.length - i = (l.length - (i + 1)) + 1 by omega, idxF] at hsame
    refine x.cond rfl (by simp only [AllP]; omega) (fun h2 => ?_) (fun h2 => ?_)
    · have h2 : decide ((l.getD i chan0).1.data.toList = s.data.toList) = true := h2
      rw [if_pos h2] at hsame
      refine x.exit rfl trivial ⟨.inr rfl, ?_, trivial, rfl⟩
      show VEq0 (vi (i : Int)) (vi (idxC l s))
      rw [hsame]; exact rfl
    · have h2 : decide ((l.getD i chan0).1.data.toList = s.data.toList) = false := h2
      rw [if_neg (by rw [h2]; simp)] at hsame
      refine x.back rfl ?_ ⟨⟨i + 1, by omega, hsame⟩, by show l.length - (i + 1) < l.length - i; omega, ⟨veq_d rfl, rfl, (show VEq0 (vi ((i : Int) + 1)) (vi ((i + 1 : Nat) : Int)) by rw [Int.natCast_add]; rfl), trivial⟩, trivial, rfl⟩
      simp only [AllP, inI64]; omega
  · have h1 : i = l.length := by have := of_decide_eq_false h1; omega
    refine x.exit rfl trivial ⟨.inr rfl, ?_, trivial, rfl⟩
    show VEq0 (vi (-1)) (vi (idxC l s))
    rw [← hsame, show l.length - i = 0 by omega]; exact rfl
theorem found6_spec (k : Int) : Pure PG 16 [vi (if 0 > k then 0 else k), vb (decide (0 ≤ k)), vi k] (vb true) [] := by
  refine Proc.mk (cfg 27) tysOK [] Tryd.func16 rfl (by kernel_rfl) rfl rfl rfl ?_
  intro C x
  refine x.exit rfl trivial ⟨.inr rfl, ?_, trivial, rfl⟩
  refine (show VEq0 (vb _) (vb true) from ?_)
  by_cases h : 0 ≤ k
  · have h' : ¬ 0 > k := by omega
    (simp [h, h', VEq0]; exact rfl)
  · have h' : 0 > k := by omega
    (simp [h, h', VEq0]; exact rfl)

def exP : ByteArray := ⟨#[108, 101, 118, 101, 108, 32, 108, 111, 119, 10, 108, 101, 118, 101, 108, 32, 104, 105, 103, 104, 10, 102, 108, 111, 119, 32, 108, 111, 119, 32, 104, 105, 103, 104, 10, 105, 110, 112, 117, 116, 32, 107, 101, 121, 32, 104, 105, 103, 104, 10, 111, 117, 116, 112, 117, 116, 32, 110, 101, 116, 32, 108, 111, 119, 10, 100, 101, 112, 116, 104, 32, 56]⟩
def exQ : ByteArray := ⟨#[108, 101, 118, 101, 108, 32, 108, 111, 119, 10, 32, 105, 110, 112, 117, 116, 32, 107, 101, 121, 32, 104, 105, 103, 104]⟩
theorem exP_e : (parseP exP).2.2 = 0 ∧ (parseP exP).1.lev.length = 2 ∧ (parseP exP).1.ins.length = 1 ∧ ((parseP exP).1.ins.getD 0 chan0).2 = 1 ∧ (parseP exP).1.depth = 8 := by decide +kernel
theorem exQ_e : (parseP exQ).2.2 = 10 ∧ (parseP exQ).2.1 = 11 := by decide +kernel
set_option maxHeartbeats 2000000 in
theorem awake6_spec : Pure PG 11 [] (vb true) [] := by
  refine Proc.mk (cfg 52) tysOK [] Tryd.func11 rfl (by kernel_rfl) rfl rfl rfl ?_
  intro C x
  have s1 : exP.size ≤ 9223372036854775807 := by show (72 : Nat) ≤ _; decide
  have s2 : exQ.size ≤ 9223372036854775807 := by show (25 : Nat) ≤ _; decide
  refine x.pure rfl trivial rfl (parse6_spec exP s1) ⟨rfl, trivial⟩ ?_
  refine x.pure rfl trivial rfl (parse6_spec exQ s2) ⟨rfl, trivial⟩ ?_
  obtain ⟨a1, a2, a3, a4, a5⟩ := exP_e
  obtain ⟨b1, b2⟩ := exQ_e
  obtain ⟨PA, hA⟩ : ∃ P, parseP exP = P := ⟨_, rfl⟩
  obtain ⟨PB, hB⟩ : ∃ P, parseP exQ = P := ⟨_, rfl⟩
  rw [hA] at a1 a2 a3 a4 a5 ⊢
  rw [hB] at b1 b2 ⊢
  refine x.exit rfl ?_ ?_
  · simp only [AllP, Int.toNat_zero, a2, a3]
    exact fun _ => by omega
  refine ⟨.inr rfl, (show VEq0 (vb _) (vb true) from ?_), trivial, rfl⟩
  rw [Int.toNat_zero, a1, a2, a3, a4, a5, b1, b2]
  exact rfl
/-! ### the law -/
set_option maxHeartbeats 2000000 in
theorem finds_spec (p : Pol) (h : PolSz p) (s : ByteArray) : Pure PG 5 [vPol p, vs s] (vb true) [] := by
  have hl : inI64 (p.lev.length : Int) := by have := h.lev; unfold inI64; omega
  have hi : inI64 (p.ins.length : Int) := by have := h.ins; unfold inI64; omega
  have ho : inI64 (p.outs.length : Int) := by have := h.outs; unfold inI64; omega
  refine Proc.mk (cfg 59) tysOK [] Tryd.func5 rfl (by kernel_rfl) rfl rfl rfl ?_
  intro C x
  refine x.pure rfl trivial rfl (copy6_spec p h) ⟨⟨veq0_d rfl, veq0_d rfl, veq0_d rfl, veq0_d rfl, rfl, trivial⟩, trivial⟩ ?_
  refine x.pure rfl trivial rfl (level_spec p.lev s hl) ⟨⟨veq0_d rfl, rfl, rfl, rfl, rfl, trivial⟩, rfl, trivial⟩ ?_
  refine x.pure rfl trivial rfl (copy6_spec p h) ⟨⟨veq0_d rfl, veq0_d rfl, veq0_d rfl, veq0_d rfl, rfl, trivial⟩, trivial⟩ ?_
  refine x.pure rfl trivial rfl (input_spec p.ins s hi) ⟨⟨rfl, rfl, veq0_d rfl, rfl, rfl, trivial⟩, rfl, trivial⟩ ?_
  refine x.pure rfl trivial rfl (copy6_spec p h) ⟨⟨veq0_d rfl, veq0_d rfl, veq0_d rfl, veq0_d rfl, rfl, trivial⟩, trivial⟩ ?_
  refine x.pure rfl trivial rfl (output_spec p.outs s ho) ⟨⟨rfl, rfl, rfl, veq0_d rfl, rfl, trivial⟩, rfl, trivial⟩ ?_
  refine x.pure rfl trivial rfl (lev6_spec p.lev s hl) ⟨⟨veq0_d rfl, rfl, rfl, rfl, rfl, trivial⟩, rfl, trivial⟩ ?_
  refine x.pure rfl trivial rfl (found6_spec (idxS p.lev s)) ⟨rfl, rfl, rfl, trivial⟩ ?_
  refine x.pureG rfl trivial rfl (fun _ => chn6_spec p.ins s hi) rfl ⟨veq_d rfl, rfl, trivial⟩ ?_
  refine x.pureG rfl trivial rfl (fun _ => found6_spec (idxC p.ins s)) rfl ⟨rfl, rfl, rfl, trivial⟩ ?_
  refine x.pureG rfl trivial rfl (fun _ => chn6_spec p.outs s ho) rfl ⟨veq_d rfl, rfl, trivial⟩ ?_
  refine x.pureG rfl trivial rfl (fun _ => found6_spec (idxC p.outs s)) rfl ⟨rfl, rfl, rfl, trivial⟩ ?_
  refine x.pureG rfl trivial rfl (fun _ => awake6_spec) rfl trivial ?_
  exact x.exit rfl trivial ⟨.inr rfl, rfl, trivial, rfl⟩
end Go.Proofs.YtcdfjaaipbjpnaaDoor

/- Policies: the answer's line. -/
namespace Go.Proofs.YtcdfjaaipbjpnaaDoor
open Go.Sx
set_option linter.unusedVariables false
set_option linter.unusedSimpArgs false
set_option maxRecDepth 100000

abbrev polR (r : Rdr) : V := .agg [vSs r.lev, vU [], vChs r.ins, vChs r.outs, vi r.depth]
abbrev lineV (q : Rdr × Int) : V := .tup [polR q.1, vPairs q.1.flows, vi q.2]
/-- How many words stand behind a first word. -/
def behindV (k : List UInt8) : Int := if k = wLevel then 1 else if k = wFlow then 2 else if k = wInput then 2 else if k = wOutput then 2 else if k = wDepth then 1 else 0
def behindT : List (Key × V) := [(.inl [108, 101, 118, 101, 108], vi 1), (.inl [102, 108, 111, 119], vi 2), (.inl [105, 110, 112, 117, 116], vi 2), (.inl [111, 117, 116, 112, 117, 116], vi 2), (.inl [100, 101, 112, 116, 104], vi 1)]
theorem behind_eq (k : List UInt8) : tInt (.inl k) behindT = behindV k := by
  unfold behindT behindV
  simp only [tInt, keyEq, wLevel, wFlow, wInput, wOutput, wDepth]
  by_cases h1 : k = [108, 101, 118, 101, 108]
  · simp [h1]
  by_cases h2 : k = [102, 108, 111, 119]
  · simp [h2]
  by_cases h3 : k = [105, 110, 112, 117, 116]
  · simp [h3]
  by_cases h4 : k = [111, 117, 116, 112, 117, 116]
  · simp [h4]
  by_cases h5 : k = [100, 101, 112, 116, 104]
  · simp [h5]
  simp [h1, h2, h3, h4, h5]
theorem read_off {r : Rdr} {w : List ByteArray} (hw : 1 ≤ w.length) (h : ¬ behindV (w_ w 0).data.toList = (w.length : Int) - 1 ∨ w.length = 1) : readR r w = (r, 8) := by
  unfold behindV at h
  unfold readR
  have pk : ∀ n d, ¬ w.length = n + 1 → pickR r w n d = (r, 8) := fun n d h => by unfold pickR; rw [if_neg (fun e => h e.1)]
  by_cases e1 : (w_ w 0).data.toList = wLevel
  · rw [if_pos e1] at h ⊢; exact pk _ _ (by omega)
  rw [if_neg e1] at h ⊢
  by_cases e2 : (w_ w 0).data.toList = wFlow
  · rw [if_pos e2] at h ⊢; exact pk _ _ (by omega)
  rw [if_neg e2] at h ⊢
  by_cases e3 : (w_ w 0).data.toList = wInput
  · rw [if_pos e3] at h ⊢; exact pk _ _ (by omega)
  rw [if_neg e3] at h ⊢
  by_cases e4 : (w_ w 0).data.toList = wOutput
  · rw [if_pos e4] at h ⊢; exact pk _ _ (by omega)
  rw [if_neg e4] at h ⊢
  by_cases e5 : (w_ w 0).data.toList = wDepth
  · rw [if_pos e5] at h ⊢; exact pk _ _ (by omega)
  rw [if_neg e5]
theorem read_bad {r : Rdr} {w : List ByteArray} (h : ¬ allW w = true) : readR r w = (r, 8) := by
  unfold readR
  have pk : ∀ n d, pickR r w n d = (r, 8) := fun n d => by unfold pickR; rw [if_neg (fun e => h e.2)]
  simp only [pk]
  repeat' split
  all_goals rfl
theorem allW_iff (w : List ByteArray) : allW w = true ↔ ∀ j, 1 ≤ j → j < w.length → okW (w_ w 0) (w_ w j) = true := by
  unfold allW
  rw [List.all_eq_true]
  constructor
  · intro h j h1 h2
    obtain ⟨k, rfl⟩ : ∃ k, j = k + 1 := ⟨j - 1, by omega⟩
    have e : w_ w (k + 1) = w.tail.getD k .empty := tail_get w k
    have hk : k < w.tail.length := by rw [List.length_tail]; omega
    rw [e]
    refine h _ ?_
    rw [List.getD_eq_getElem?_getD, List.getElem?_eq_getElem hk]
    exact List.getElem_mem hk
  · intro h x hx
    obtain ⟨k, hk, rfl⟩ := List.getElem_of_mem hx
    have := h (k + 1) (by omega) (by rw [List.length_tail] at hk; omega)
    have e : w_ w (k + 1) = w.tail.getD k .empty := tail_get w k
    rw [e, List.getD_eq_getElem?_getD, List.getElem?_eq_getElem hk] at this
    exact this
theorem lev_app (l : List ByteArray) (x : ByteArray) (j : Nat) (hj : j < 0 + l.length + 1) : app (0 + l.length) (app 0 (tab (List.replicate 0 [D.str .empty])) fun i => [D.str (l.getD i .empty)]) (tab ((List.replicate 1 [D.str .empty]).set 0 [D.str x])) j = [D.str ((l ++ [x]).getD j .empty)] := by
  rw [show app 0 (tab (List.replicate 0 [D.str .empty])) (fun i => [D.str (l.getD i .empty)]) = (fun i => [D.str (l.getD i .empty)]) from funext (app0_1 _), Nat.zero_add]
  rw [Nat.zero_add] at hj
  have := app_gen6 (fun t => [D.str t]) 1 (fun _ => rfl) .empty l x j hj
  rw [← this]
  unfold app
  by_cases h : j < l.length
  · rw [zipIte_pos h, zipIte_pos h]
  · have e : j - l.length = 0 := by omega
    rw [zipIte_neg h, zipIte_neg h, e]; rfl
theorem two_app {α : Type} {z0 z1 : D} (d e : α → D) (a0 : α) (l : List α) (x : α) (u v : D) (hu : u = d x) (hv : v = e x) (j : Nat) (hj : j < 0 + l.length + 1) : app (0 + l.length) (app 0 (tab (List.replicate 0 [z0, z1])) fun i => [d (l.getD i a0), e (l.getD i a0)]) (tab ((List.replicate 1 [z0, z1]).set 0 [u, v])) j = [d ((l ++ [x]).getD j a0), e ((l ++ [x]).getD j a0)] := by
  subst hu hv
  rw [show app 0 (tab (List.replicate 0 [z0, z1])) (fun i => [d (l.getD i a0), e (l.getD i a0)]) = (fun i => [d (l.getD i a0), e (l.getD i a0)]) from funext (app0_2 (fun i => d (l.getD i a0)) (fun i => e (l.getD i a0))), Nat.zero_add]
  rw [Nat.zero_add] at hj
  have := app_gen6 (fun t => [d t, e t]) 2 (fun _ => rfl) a0 l x j hj
  rw [← this]
  unfold app
  by_cases h : j < l.length
  · rw [zipIte_pos h, zipIte_pos h]
  · have e : j - l.length = 0 := by omega
    rw [zipIte_neg h, zipIte_neg h, e]; rfl
abbrev polC (r : Rdr) : Ch := .box [vSs r.lev, vU [], vChs r.ins, vChs r.outs, vi r.depth]
theorem polC_eq (r : Rdr) : ChEq (polC r) (polC r) := ⟨veq0_d rfl, veq0_d rfl, veq0_d rfl, veq0_d rfl, rfl, trivial⟩
abbrev zeroC : Ch := .box [.nils, .nils, .nils, .nils, vi 0]
set_option maxHeartbeats 4000000 in
theorem rline_spec (r : Rdr) (hr : Small r) (w : List ByteArray) (hw : 1 ≤ w.length) (hwl : inI64 (w.length : Int)) (hsz : ∀ s ∈ w, s.size ≤ 9223372036854775807) : Pure PG 30 [polR r, vPairs r.flows, vSs w] (lineV (readR r w)) [] := by
  refine Proc.mk (cfg 196) tysOK [] Tryd.func30 rfl (by kernel_rfl) rfl rfl rfl ?_
  intro C x
  unfold inI64 at hwl
  have hget : ∀ j, j < w.length → (w_ w j).size ≤ 9223372036854775807 := fun j hj => hsz _ (by
    unfold w_
    rw [List.getD_eq_getElem?_getD, List.getElem?_eq_getElem hj]
    exact List.getElem_mem hj)
  refine x.cond rfl ?_ (fun h1 => ?_) (fun h1 => ?_)
  · simp only [AllP, newKey]
    refine ⟨by decide, by decide, by decide, by decide, by decide, by omega, ?_⟩
    unfold inI64; omega
  · have h1 : (!decide (tInt (.inl (w_ w 0).data.toList) behindT = (w.length : Int) - 1) || decide ((w.length : Int) = 1)) = true := h1
    rw [behind_eq] at h1
    simp only [Bool.or_eq_true, Bool.not_eq_true', decide_eq_false_iff_not, decide_eq_true_eq] at h1
    rw [read_off hw (h1.imp id fun e => by omega)]
    refine x.exit rfl trivial ⟨.inr rfl, ?_, trivial, rfl⟩
    exact ⟨rfl, veq0_d rfl, rfl, trivial⟩
  have h1 : (!decide (tInt (.inl (w_ w 0).data.toList) behindT = (w.length : Int) - 1) || decide ((w.length : Int) = 1)) = false := h1
  rw [behind_eq] at h1
  simp only [Bool.or_eq_false_iff, Bool.not_eq_false', decide_eq_false_iff_not, decide_eq_true_eq] at h1
  obtain ⟨hb, hne⟩ := h1
  have hw2 : 2 ≤ w.length := by omega
  refine x.pure rfl ?_ rfl (ref_number_spec (w_ w 1) (hget 1 (by omega))) ⟨rfl, trivial⟩ ?_
  · simp only [AllP]; omega
  rw [← num_eq]
  refine x.loop (α := { i : Nat // 1 ≤ i ∧ i ≤ w.length ∧ ∀ j, 1 ≤ j → j < i → okW (w_ w 0) (w_ w j) = true }) (fun y => ⟨[(1, vPairs r.flows), (2, vSs w), (3, .ptr 0 0), (6, .ptr 1 0), (10, vi (numV (w_ w 1)).1), (11, vb (numV (w_ w 1)).2), (12, vi (y.1 : Int))], [(0, polC r), (1, zeroC)], 2⟩) (fun y => w.length - y.1) ⟨1, by omega, by omega, fun j h1 h2 => by omega⟩ rfl trivial ?_ (fun y => ?_)
  · exact ⟨⟨veq_d rfl, veq_d rfl, ⟨rfl, rfl⟩, ⟨rfl, rfl⟩, rfl, rfl, rfl, trivial⟩, ⟨polC_eq r, ⟨trivial, trivial, trivial, trivial, rfl, trivial⟩, trivial⟩, rfl⟩
  obtain ⟨i, hi1, hi, hok⟩ := y
  change Go C _ ⟨[(1, vPairs r.flows), (2, vSs w), (3, .ptr 0 0), (6, .ptr 1 0), (10, vi (numV (w_ w 1)).1), (11, vb (numV (w_ w 1)).2), (12, vi (i : Int))], [(0, polC r), (1, zeroC)], 2⟩ _
  refine x.cond rfl trivial (fun h2 => ?_) (fun h2 => ?_)
  · have h2 : i < w.length := by have := of_decide_eq_true h2; omega
    refine x.pureG rfl ?_ rfl (fun _ _ => rname6_spec (w_ w i) (hget i h2)) rfl ⟨rfl, trivial⟩ ?_
    · exact ⟨by omega, fun _ => by omega, fun _ _ => by omega⟩
    have key : ((decide ((w_ w 0).data.toList = wDepth) && !(numV (w_ w 1)).2) || (!decide ((w_ w 0).data.toList = wDepth) && !nameB (w_ w i))) = !okW (w_ w 0) (w_ w i) := by
      unfold okW
      rw [Bool.not_not]
      by_cases hd : (w_ w 0).data.toList = wDepth
      · have : i = 1 := by
          unfold behindV at hb
          rw [hd] at hb
          have e : ((if wDepth = wLevel then 1 else if wDepth = wFlow then 2 else if wDepth = wInput then 2 else if wDepth = wOutput then 2 else if wDepth = wDepth then 1 else 0) : Int) = 1 := by decide
          rw [e] at hb
          omega
        subst this; rfl
      · rw [decide_eq_false hd]; rfl
    refine x.cond rfl trivial (fun h3 => ?_) (fun h3 => ?_)
    · have h3 : ((decide ((w_ w 0).data.toList = wDepth) && !(numV (w_ w 1)).2) || (!decide ((w_ w 0).data.toList = wDepth) && !nameB (w_ w i))) = true := h3
      rw [key, Bool.not_eq_true'] at h3
      rw [read_bad (fun h => by rw [(allW_iff w).1 h i hi1 h2] at h3; cases h3)]
      refine x.exit rfl trivial ⟨.inr rfl, ?_, trivial, rfl⟩
      exact ⟨rfl, veq0_d rfl, rfl, trivial⟩
    · have h3 : ((decide ((w_ w 0).data.toList = wDepth) && !(numV (w_ w 1)).2) || (!decide ((w_ w 0).data.toList = wDepth) && !nameB (w_ w i))) = false := h3
      rw [key, Bool.not_eq_false'] at h3
      refine x.back rfl ?_ ⟨⟨i + 1, by omega, by omega, fun j j1 j2 => ?_⟩, by show w.length - (i + 1) < w.length - i; omega, ⟨veq_d rfl, veq_d rfl, ⟨rfl, rfl⟩, ⟨rfl, rfl⟩, rfl, rfl, (show VEq0 (vi ((i : Int) + 1)) (vi ((i + 1 : Nat) : Int)) by rw [Int.natCast_add]; rfl), trivial⟩, ⟨polC_eq r, ⟨trivial, trivial, trivial, trivial, rfl, trivial⟩, trivial⟩, rfl⟩
      · simp only [AllP, inI64]; omega
      · by_cases e : j = i
        · subst e; exact h3
        · exact hok j j1 (by omega)
  have h2 : i = w.length := by have := of_decide_eq_false h2; omega
  subst h2
  have hall : allW w = true := (allW_iff w).2 hok
  obtain ⟨i1, i2, i3, i4⟩ := hr.i64
  have pk : ∀ (n : Nat) d, behindV (w_ w 0).data.toList = (n : Int) → pickR r w n d = d := fun n d h => by unfold pickR; rw [if_pos ⟨by omega, hall⟩]
  have wt : ∀ j, w_ w.tail j = w_ w (j + 1) := fun j => (tail_get w j).symm
  refine x.cond rfl (by simp only [AllP]; omega) (fun k1 => ?_) (fun k1 => ?_)
  · -- a level
    have k1 : (w_ w 0).data.toList = wLevel := of_decide_eq_true k1
    have hb1 : behindV (w_ w 0).data.toList = 1 := by unfold behindV; rw [if_pos k1]
    have hread : readR r w = levelR r w.tail := by
      unfold readR; rw [if_pos k1]; exact pk 1 _ hb1
    rw [hread, levelR, wt]
    refine x.quiet rfl trivial mixedP (by kernel_rfl) ?_
    refine x.qcall rfl (by simp only [AllP]; omega) rfl (lev6_spec r.lev (w_ w 1) i1) rfl rfl ⟨⟨veq0_d rfl, rfl, rfl, rfl, rfl, trivial⟩, rfl, trivial⟩ ?_
    refine x.qdone rfl trivial ?_
    refine x.cond rfl trivial (fun k2 => ?_) (fun k2 => ?_)
    · have k2 : 0 ≤ idxS r.lev (w_ w 1) := of_decide_eq_true k2
      rw [if_pos k2]
      refine x.exit rfl trivial ⟨.inr rfl, ?_, trivial, rfl⟩
      exact ⟨rfl, veq0_d rfl, rfl, trivial⟩
    have k2 : ¬ 0 ≤ idxS r.lev (w_ w 1) := of_decide_eq_false k2
    rw [if_neg k2]
    have hlev := hr.lev
    refine x.cond rfl trivial (fun k3 => ?_) (fun k3 => ?_)
    · have k3 : r.lev.length = 64 := by have := of_decide_eq_true k3; omega
      rw [if_pos k3]
      refine x.exit rfl trivial ⟨.inr rfl, ?_, trivial, rfl⟩
      exact ⟨rfl, veq0_d rfl, rfl, trivial⟩
    have k3 : ¬ r.lev.length = 64 := by have := of_decide_eq_false k3; omega
    rw [if_neg k3]
    refine x.every2 [0] [4, 5, 6] (.fork 0 (.fork 1 (.fork 2 (.fork 3 (.fork 7 (.fork 8 (.fork 9 (.fork 10 .leaf .no) .no) .no) .no) (.fork 7 (.fork 3 (.fork 8 (.fork 9 (.fork 10 .leaf .no) .no) .no) .no) .no)) (.fork 7 (.fork 2 (.fork 3 (.fork 8 (.fork 9 (.fork 10 .leaf .no) .no) .no) .no) .no) .no)) (.fork 7 (.fork 1 (.fork 2 (.fork 3 (.fork 8 (.fork 9 (.fork 10 .leaf .no) .no) .no) .no) .no) .no) .no)) (.fork 1 (.fork 0 (.fork 2 (.fork 3 (.fork 7 (.fork 8 (.fork 9 (.fork 10 .leaf .no) .no) .no) .no) (.fork 7 (.fork 3 (.fork 8 (.fork 9 (.fork 10 .leaf .no) .no) .no) .no) .no)) (.fork 7 (.fork 2 (.fork 3 (.fork 8 (.fork 9 (.fork 10 .leaf .no) .no) .no) .no) .no) .no)) (.fork 2 (.fork 0 (.fork 3 (.fork 7 (.fork 8 (.fork 9 (.fork 10 .leaf .no) .no) .no) .no) (.fork 7 (.fork 3 (.fork 8 (.fork 9 (.fork 10 .leaf .no) .no) .no) .no) .no)) (.fork 7 (.fork 0 (.fork 3 (.fork 8 (.fork 9 (.fork 10 .leaf .no) .no) .no) .no) .no) .no)) (.fork 7 (.fork 0 (.fork 2 (.fork 3 (.fork 8 (.fork 9 (.fork 10 .leaf .no) .no) .no) .no) .no) (.fork 2 (.fork 0 (.fork 3 (.fork 8 (.fork 9 (.fork 10 .leaf .no) .no) .no) .no) .no) .no)) .no))) (.fork 7 (.fork 0 (.fork 1 (.fork 2 (.fork 3 (.fork 8 (.fork 9 (.fork 10 .leaf .no) .no) .no) .no) .no) .no) (.fork 1 (.fork 0 (.fork 2 (.fork 3 (.fork 8 (.fork 9 (.fork 10 .leaf .no) .no) .no) .no) .no) (.fork 2 (.fork 0 (.fork 3 (.fork 8 (.fork 9 (.fork 10 .leaf .no) .no) .no) .no) .no) .no)) .no)) .no)))
      ⟨[(1, vPairs r.flows), (2, vSs w), (3, .ptr 0 0), (6, .ptr 1 0)], [(0, .box [.own 2, vU [], vChs r.ins, vChs r.outs, vi r.depth]), (2, vecS (r.lev ++ [w_ w 1]))], 4⟩ rfl trivial mixedP (by kernel_rfl) Ret.noPanic rfl ?_ (fun C2 x2 => ?_) ?_
    · simp only [AllP]; omega
    · repeat' first
        | exact True.intro
        | refine And.intro ?_ ?_
        | refine x2.back rfl trivial ?_
        | refine x2.back rfl (by simp only [AllP, big]; omega) ?_
        | exact .inl ⟨⟨veq_d rfl, veq_d rfl, ⟨rfl, rfl⟩, ⟨rfl, rfl⟩, trivial⟩, ⟨⟨rfl, veq0_d rfl, veq0_d rfl, veq0_d rfl, rfl, trivial⟩, ⟨rfl, rfl, by simp, lev_app r.lev (w_ w 1)⟩, trivial⟩, rfl⟩
        | exact .inr ⟨[0, 1, 3, 2], rfl, ⟨veq_d rfl, veq_d rfl, ⟨rfl, rfl⟩, ⟨rfl, rfl⟩, trivial⟩, ⟨⟨rfl, veq0_d rfl, veq0_d rfl, veq0_d rfl, rfl, trivial⟩, ⟨rfl, rfl, by simp, lev_app r.lev (w_ w 1)⟩, trivial⟩, rfl⟩
    refine Sx.Go.freeze 2 ?_
    refine x.exit rfl trivial ⟨.inr rfl, ?_, trivial, rfl⟩
    exact ⟨rfl, veq0_d rfl, rfl, trivial⟩
  have k1 : ¬ (w_ w 0).data.toList = wLevel := of_decide_eq_false k1
  refine x.cond rfl trivial (fun k1 => ?_) (fun k1 => ?_)
  · -- a flow
    have k1' : ¬ (w_ w 0).data.toList = wLevel := by assumption
    have k1 : (w_ w 0).data.toList = wFlow := of_decide_eq_true k1
    have hb1 : behindV (w_ w 0).data.toList = 2 := by unfold behindV; rw [if_neg k1', if_pos k1]
    have hread : readR r w = flowR r w.tail := by
      unfold readR; rw [if_neg k1', if_pos k1]; exact pk 2 _ hb1
    rw [hread, flowR, wt, wt]
    refine x.quiet rfl trivial mixedP (by kernel_rfl) ?_
    refine x.qcall rfl (by simp only [AllP]; omega) rfl (lev6_spec r.lev (w_ w 1) i1) rfl rfl ⟨⟨veq0_d rfl, rfl, rfl, rfl, rfl, trivial⟩, rfl, trivial⟩ ?_
    refine x.qcall rfl (by simp only [AllP]; omega) rfl (lev6_spec r.lev (w_ w 2) i1) rfl rfl ⟨⟨veq0_d rfl, rfl, rfl, rfl, rfl, trivial⟩, rfl, trivial⟩ ?_
    refine x.qdone rfl trivial ?_
    refine x.cond rfl trivial (fun k2 => ?_) (fun k2 => ?_)
    · have k2 : (decide (idxS r.lev (w_ w 1) < 0) || decide (idxS r.lev (w_ w 2) < 0)) = true := k2
      simp only [Bool.or_eq_true, decide_eq_true_eq] at k2
      rw [if_neg (by show ¬ (0 ≤ idxS r.lev (w_ w 1) ∧ 0 ≤ idxS r.lev (w_ w 2)); omega)]
      refine x.exit rfl trivial ⟨.inr rfl, ?_, trivial, rfl⟩
      exact ⟨rfl, veq0_d rfl, rfl, trivial⟩
    have k2 : (decide (idxS r.lev (w_ w 1) < 0) || decide (idxS r.lev (w_ w 2) < 0)) = false := k2
    simp only [Bool.or_eq_false_iff, decide_eq_false_iff_not] at k2
    rw [if_pos (by show 0 ≤ idxS r.lev (w_ w 1) ∧ 0 ≤ idxS r.lev (w_ w 2); omega)]
    have hfl := hr.flows
    refine Go.atExit [2] ?_
    refine x.exit rfl (by simp only [AllP, big]; omega) ⟨.inr rfl, ?_, trivial, rfl⟩
    refine ⟨rfl, ⟨by simp, fun _ => rfl, fun j hj => ?_⟩, rfl, trivial⟩
    exact two_app (fun t : Nat × Nat => D.int .i64 (t.1 : Int)) (fun t => D.int .i64 (t.2 : Int)) (0, 0) r.flows ((idxS r.lev (w_ w 1)).toNat, (idxS r.lev (w_ w 2)).toNat) (D.int .i64 (idxS r.lev (w_ w 1))) (D.int .i64 (idxS r.lev (w_ w 2))) (congrArg (D.int .i64) (show idxS r.lev (w_ w 1) = ((idxS r.lev (w_ w 1)).toNat : Int) by omega)) (congrArg (D.int .i64) (show idxS r.lev (w_ w 2) = ((idxS r.lev (w_ w 2)).toNat : Int) by omega)) j hj
  have k2 : ¬ (w_ w 0).data.toList = wFlow := of_decide_eq_false k1
  have k1 : ¬ (w_ w 0).data.toList = wLevel := by assumption
  refine x.cond rfl trivial (fun k3 => ?_) (fun k3 => ?_)
  · -- how deep
    have k3 : (w_ w 0).data.toList = wDepth := of_decide_eq_true k3
    have n3 : ¬ wDepth = wInput := by decide
    have n4 : ¬ wDepth = wOutput := by decide
    have hb1 : behindV (w_ w 0).data.toList = 1 := by
      unfold behindV; rw [if_neg k1, if_neg k2, k3, if_neg n3, if_neg n4, if_pos rfl]
    have hread : readR r w = depthR r w.tail := by
      have := pk 1 (depthR r w.tail) hb1
      unfold readR; rw [if_neg k1, if_neg k2, k3, if_neg n3, if_neg n4, if_pos rfl]; exact this
    rw [hread, depthR, wt]
    refine x.cond rfl trivial (fun k4 => ?_) (fun k4 => ?_)
    · have k4 : 0 < r.depth := of_decide_eq_true k4
      rw [if_pos k4]
      refine x.exit rfl trivial ⟨.inr rfl, ?_, trivial, rfl⟩
      exact ⟨rfl, veq0_d rfl, rfl, trivial⟩
    have k4 : ¬ 0 < r.depth := of_decide_eq_false k4
    rw [if_neg k4]
    refine x.cond rfl trivial (fun k5 => ?_) (fun k5 => ?_)
    · have k5 : (decide ((numV (w_ w 1)).1 < 1) || decide (64 < (numV (w_ w 1)).1)) = true := k5
      simp only [Bool.or_eq_true, decide_eq_true_eq] at k5
      rw [if_pos (by show (numV (w_ w 1)).1 < 1 ∨ 64 < (numV (w_ w 1)).1; exact k5)]
      refine x.exit rfl trivial ⟨.inr rfl, ?_, trivial, rfl⟩
      exact ⟨rfl, veq0_d rfl, rfl, trivial⟩
    have k5 : (decide ((numV (w_ w 1)).1 < 1) || decide (64 < (numV (w_ w 1)).1)) = false := k5
    simp only [Bool.or_eq_false_iff, decide_eq_false_iff_not] at k5
    rw [if_neg (by show ¬ ((numV (w_ w 1)).1 < 1 ∨ 64 < (numV (w_ w 1)).1); omega)]
    refine x.exit rfl trivial ⟨.inr rfl, ?_, trivial, rfl⟩
    exact ⟨rfl, veq0_d rfl, rfl, trivial⟩
  have k3 : ¬ (w_ w 0).data.toList = wDepth := of_decide_eq_false k3
  refine x.cond rfl (by simp only [AllP]; omega) (fun k7 => ?_) (fun k7 => ?_)
  · have k7 : (w_ w 0).data.toList = wInput := of_decide_eq_true k7
    have hb1 : behindV (w_ w 0).data.toList = 2 := by unfold behindV; rw [if_neg k1, if_neg k2, if_pos k7]
    have hread : readR r w = ({ r with ins := chanL r.lev r.ins w.tail }, chanE r.lev r.ins w.tail) := by
      unfold readR; rw [if_neg k1, if_neg k2, if_pos k7]; exact pk 2 _ hb1
    have hcl := hr.ins
    have wt2 : w_ w.tail 0 = w_ w 1 ∧ w_ w.tail 1 = w_ w 2 := ⟨wt 0, wt 1⟩
    refine x.quiet rfl trivial mixedP (by kernel_rfl) ?_
    refine x.qcall rfl (by simp only [AllP]; omega) rfl (lev6_spec r.lev (w_ w 2) i1) rfl rfl ⟨⟨veq0_d rfl, rfl, rfl, rfl, rfl, trivial⟩, rfl, trivial⟩ ?_
    refine x.qdone rfl trivial ?_
    refine x.pure rfl (by simp only [AllP]; omega) rfl (chn6_spec r.ins (w_ w 1) (by unfold inI64; omega)) ⟨veq_d rfl, rfl, trivial⟩ ?_
    rw [hread]
    refine x.cond rfl trivial (fun c1 => ?_) (fun c1 => ?_)
    · have c1 : 0 ≤ idxC r.ins (w_ w 1) := of_decide_eq_true c1
      have hE : chanE r.lev r.ins w.tail = 9 := by unfold chanE; rw [wt2.1, if_pos c1]
      rw [chanL, hE, if_neg (by decide)]
      refine x.exit rfl trivial ⟨.inr rfl, ?_, trivial, rfl⟩
      exact ⟨rfl, veq0_d rfl, rfl, trivial⟩
    have c1 : ¬ 0 ≤ idxC r.ins (w_ w 1) := of_decide_eq_false c1
    refine x.cond rfl trivial (fun c2 => ?_) (fun c2 => ?_)
    · have c2 : idxS r.lev (w_ w 2) < 0 := of_decide_eq_true c2
      have hE : chanE r.lev r.ins w.tail = 10 := by unfold chanE; rw [wt2.1, wt2.2, if_neg c1, if_pos (by omega)]
      rw [chanL, hE, if_neg (by decide)]
      refine x.exit rfl trivial ⟨.inr rfl, ?_, trivial, rfl⟩
      exact ⟨rfl, veq0_d rfl, rfl, trivial⟩
    have c2 : ¬ idxS r.lev (w_ w 2) < 0 := of_decide_eq_false c2
    refine x.cond rfl trivial (fun c3 => ?_) (fun c3 => ?_)
    · have c3 : r.ins.length = 32 := by have := of_decide_eq_true c3; omega
      have hE : chanE r.lev r.ins w.tail = 3 := by unfold chanE; rw [wt2.1, wt2.2, if_neg c1, if_neg (by omega), if_pos c3]
      rw [chanL, hE, if_neg (by decide)]
      refine x.exit rfl trivial ⟨.inr rfl, ?_, trivial, rfl⟩
      exact ⟨rfl, veq0_d rfl, rfl, trivial⟩
    have c3 : ¬ r.ins.length = 32 := by have := of_decide_eq_false c3; omega
    have hE : chanE r.lev r.ins w.tail = 0 := by unfold chanE; rw [wt2.1, wt2.2, if_neg c1, if_neg (by omega), if_neg c3]
    rw [chanL, hE, if_pos rfl, wt2.1, wt2.2]
    have two := two_app (fun t : Chan => D.str t.1) (fun t => D.int .i64 t.2) chan0 r.ins (w_ w 1, idxS r.lev (w_ w 2)) (z0 := .str .empty) (z1 := .int .i64 0) (.str (w_ w 1)) (.int .i64 (idxS r.lev (w_ w 2))) rfl rfl
    refine x.every2 [] [1, 3, 4, 5, 6, 7] (.fork 0 (.fork 2 (.fork 8 (.fork 9 (.fork 10 .leaf .no) .no) .no) (.fork 8 (.fork 2 (.fork 9 (.fork 10 .leaf .no) .no) .no) .no)) (.fork 8 (.fork 0 (.fork 2 (.fork 9 (.fork 10 .leaf .no) .no) .no) .no) .no))
      ⟨[(1, vPairs r.flows), (2, vSs w), (3, .ptr 0 0), (6, .ptr 1 0), (15, .own 2)], [(2, vecC (r.ins ++ [(w_ w 1, idxS r.lev (w_ w 2))]))], 4⟩ rfl trivial mixedP (by kernel_rfl) Ret.noPanic rfl (by simp only [AllP]; omega) (fun C2 x2 => ?_) ?_
    · repeat' first
        | exact True.intro
        | refine And.intro ?_ ?_
        | refine x2.back rfl trivial ?_
        | refine x2.back rfl (by simp only [AllP, big]; omega) ?_
        | exact .inl ⟨⟨veq_d rfl, veq_d rfl, ⟨rfl, rfl⟩, ⟨rfl, rfl⟩, rfl, trivial⟩, ⟨⟨rfl, rfl, by simp, two⟩, trivial⟩, rfl⟩
        | exact .inr ⟨[0, 1, 3, 2], rfl, ⟨veq_d rfl, veq_d rfl, ⟨rfl, rfl⟩, ⟨rfl, rfl⟩, rfl, trivial⟩, ⟨⟨rfl, rfl, by simp, two⟩, trivial⟩, rfl⟩
    refine Sx.Go.freeze 2 ?_
    refine x.cond rfl (by simp only [AllP]; omega) (fun k9 => ?_) (fun k9 => ?_)
    · refine x.exit rfl trivial ⟨.inr rfl, ?_, trivial, rfl⟩
      exact ⟨rfl, veq0_d rfl, rfl, trivial⟩
    · have k9 := of_decide_eq_false k9
      exact absurd k7 k9
  · have k7 : ¬ (w_ w 0).data.toList = wInput := of_decide_eq_false k7
    have k8 : (w_ w 0).data.toList = wOutput := Classical.byContradiction fun k8 => by
      unfold behindV at hb
      rw [if_neg k1, if_neg k2, if_neg k7, if_neg k8, if_neg k3] at hb
      omega
    have hb1 : behindV (w_ w 0).data.toList = 2 := by unfold behindV; rw [if_neg k1, if_neg k2, if_neg k7, if_pos k8]
    have hread : readR r w = ({ r with outs := chanL r.lev r.outs w.tail }, chanE r.lev r.outs w.tail) := by
      unfold readR; rw [if_neg k1, if_neg k2, if_neg k7, if_pos k8]; exact pk 2 _ hb1
    have hcl := hr.outs
    have wt2 : w_ w.tail 0 = w_ w 1 ∧ w_ w.tail 1 = w_ w 2 := ⟨wt 0, wt 1⟩
    refine x.quiet rfl trivial mixedP (by kernel_rfl) ?_
    refine x.qcall rfl (by simp only [AllP]; omega) rfl (lev6_spec r.lev (w_ w 2) i1) rfl rfl ⟨⟨veq0_d rfl, rfl, rfl, rfl, rfl, trivial⟩, rfl, trivial⟩ ?_
    refine x.qdone rfl trivial ?_
    refine x.pure rfl (by simp only [AllP]; omega) rfl (chn6_spec r.outs (w_ w 1) (by unfold inI64; omega)) ⟨veq_d rfl, rfl, trivial⟩ ?_
    rw [hread]
    refine x.cond rfl trivial (fun c1 => ?_) (fun c1 => ?_)
    · have c1 : 0 ≤ idxC r.outs (w_ w 1) := of_decide_eq_true c1
      have hE : chanE r.lev r.outs w.tail = 9 := by unfold chanE; rw [wt2.1, if_pos c1]
      rw [chanL, hE, if_neg (by decide)]
      refine x.exit rfl trivial ⟨.inr rfl, ?_, trivial, rfl⟩
      exact ⟨rfl, veq0_d rfl, rfl, trivial⟩
    have c1 : ¬ 0 ≤ idxC r.outs (w_ w 1) := of_decide_eq_false c1
    refine x.cond rfl trivial (fun c2 => ?_) (fun c2 => ?_)
    · have c2 : idxS r.lev (w_ w 2) < 0 := of_decide_eq_true c2
      have hE : chanE r.lev r.outs w.tail = 10 := by unfold chanE; rw [wt2.1, wt2.2, if_neg c1, if_pos (by omega)]
      rw [chanL, hE, if_neg (by decide)]
      refine x.exit rfl trivial ⟨.inr rfl, ?_, trivial, rfl⟩
      exact ⟨rfl, veq0_d rfl, rfl, trivial⟩
    have c2 : ¬ idxS r.lev (w_ w 2) < 0 := of_decide_eq_false c2
    refine x.cond rfl trivial (fun c3 => ?_) (fun c3 => ?_)
    · have c3 : r.outs.length = 32 := by have := of_decide_eq_true c3; omega
      have hE : chanE r.lev r.outs w.tail = 3 := by unfold chanE; rw [wt2.1, wt2.2, if_neg c1, if_neg (by omega), if_pos c3]
      rw [chanL, hE, if_neg (by decide)]
      refine x.exit rfl trivial ⟨.inr rfl, ?_, trivial, rfl⟩
      exact ⟨rfl, veq0_d rfl, rfl, trivial⟩
    have c3 : ¬ r.outs.length = 32 := by have := of_decide_eq_false c3; omega
    have hE : chanE r.lev r.outs w.tail = 0 := by unfold chanE; rw [wt2.1, wt2.2, if_neg c1, if_neg (by omega), if_neg c3]
    rw [chanL, hE, if_pos rfl, wt2.1, wt2.2]
    have two := two_app (fun t : Chan => D.str t.1) (fun t => D.int .i64 t.2) chan0 r.outs (w_ w 1, idxS r.lev (w_ w 2)) (z0 := .str .empty) (z1 := .int .i64 0) (.str (w_ w 1)) (.int .i64 (idxS r.lev (w_ w 2))) rfl rfl
    refine x.every2 [] [1, 3, 4, 5, 6, 7] (.fork 0 (.fork 2 (.fork 8 (.fork 9 (.fork 10 .leaf .no) .no) .no) (.fork 8 (.fork 2 (.fork 9 (.fork 10 .leaf .no) .no) .no) .no)) (.fork 8 (.fork 0 (.fork 2 (.fork 9 (.fork 10 .leaf .no) .no) .no) .no) .no))
      ⟨[(1, vPairs r.flows), (2, vSs w), (3, .ptr 0 0), (6, .ptr 1 0), (15, .own 2)], [(2, vecC (r.outs ++ [(w_ w 1, idxS r.lev (w_ w 2))]))], 4⟩ rfl trivial mixedP (by kernel_rfl) Ret.noPanic rfl (by simp only [AllP]; omega) (fun C2 x2 => ?_) ?_
    · repeat' first
        | exact True.intro
        | refine And.intro ?_ ?_
        | refine x2.back rfl trivial ?_
        | refine x2.back rfl (by simp only [AllP, big]; omega) ?_
        | exact .inl ⟨⟨veq_d rfl, veq_d rfl, ⟨rfl, rfl⟩, ⟨rfl, rfl⟩, rfl, trivial⟩, ⟨⟨rfl, rfl, by simp, two⟩, trivial⟩, rfl⟩
        | exact .inr ⟨[0, 1, 3, 2], rfl, ⟨veq_d rfl, veq_d rfl, ⟨rfl, rfl⟩, ⟨rfl, rfl⟩, rfl, trivial⟩, ⟨⟨rfl, rfl, by simp, two⟩, trivial⟩, rfl⟩
    refine Sx.Go.freeze 2 ?_
    refine x.cond rfl (by simp only [AllP]; omega) (fun k9 => ?_) (fun k9 => ?_)
    · have k9 := of_decide_eq_true k9
      exact absurd k9 k7
    · refine x.exit rfl trivial ⟨.inr rfl, ?_, trivial, rfl⟩
      exact ⟨rfl, veq0_d rfl, rfl, trivial⟩
end Go.Proofs.YtcdfjaaipbjpnaaDoor

/- Policies: the answer's masks (Has, One, With, Above). -/
namespace Go.Proofs.YtcdfjaaipbjpnaaDoor
open Go.Sx
set_option linter.unusedVariables false
set_option linter.unusedSimpArgs false
set_option maxRecDepth 100000

theorem bit_div (m : M64) (i : Nat) : decide (((m.toNat / 2 ^ i : Nat) : Int) % 2 = 1) = bit m i := by
  unfold bit
  rw [BitVec.getLsbD, Nat.testBit, Nat.shiftRight_eq_div_pow, Nat.and_comm, Nat.and_one_is_mod]
  have : m.toNat / 2 ^ i % 2 < 2 := Nat.mod_lt _ (by omega)
  by_cases h : m.toNat / 2 ^ i % 2 = 1
  · rw [decide_eq_true (by omega), h]; rfl
  · have h0 : m.toNat / 2 ^ i % 2 = 0 := by omega
    rw [decide_eq_false (by omega), h0]; rfl
abbrev vN (n : Nat) : V := .d (.int .u64 (n : Int))
theorem rhas_spec (m : M64) (i : Nat) (hi : i < 64) : Pure PG 116 [vm m, vi (i : Int)] (vb (bit m i)) [] := by
  refine Proc.mk (cfg 22) tysOK [] Tryd.func116 rfl (by kernel_rfl) rfl rfl rfl ?_
  intro C x
  refine x.cond rfl trivial (fun h1 => ?_) (fun h1 => ?_)
  · have h1 : (decide ((i : Int) < 0) || decide ((i : Int) > 63)) = true := h1
    simp at h1; omega
  refine x.loop (α := { k : Nat // k ≤ i }) (fun y => ⟨[(0, vN (m.toNat / 2 ^ y.1)), (1, vi (i : Int)), (5, vi (y.1 : Int))], [], 0⟩) (fun y => i - y.1) ⟨0, by omega⟩ rfl trivial ⟨⟨?_, rfl, rfl, trivial⟩, trivial, rfl⟩ (fun y => ?_)
  · show VEq0 (vm m) (vN (m.toNat / 2 ^ 0))
    rw [Nat.pow_zero, Nat.div_one]; exact rfl
  obtain ⟨k, hk⟩ := y
  change Go C _ ⟨[(0, vN (m.toNat / 2 ^ k)), (1, vi (i : Int)), (5, vi (k : Int))], [], 0⟩ _
  refine x.cond rfl trivial (fun h2 => ?_) (fun h2 => ?_)
  · have h2 : k < i := by have := of_decide_eq_true h2; omega
    refine x.back rfl ?_ ⟨⟨k + 1, by omega⟩, by show i - (k + 1) < i - k; omega, ⟨?_, rfl, (show VEq0 (vi ((k : Int) + 1)) (vi ((k + 1 : Nat) : Int)) by rw [Int.natCast_add]; rfl), trivial⟩, trivial, rfl⟩
    · simp only [AllP, inI64]; omega
    · show VEq0 (.d (.int .u64 (IntKind.u64.wrap (((m.toNat / 2 ^ k : Nat) : Int).tdiv ((2 : Nat) : Int))))) (vN (m.toNat / 2 ^ (k + 1)))
      rw [← Int.ofNat_tdiv, wrap_nat (by have := toNat_lt m; have := Nat.div_le_self (m.toNat / 2 ^ k) 2; have := Nat.div_le_self m.toNat (2 ^ k); omega), Nat.pow_succ, ← Nat.div_div_eq_div_mul]; exact rfl
  · have h2 : k = i := by have := of_decide_eq_false h2; omega
    subst h2
    refine x.exit rfl (by simp only [AllP]; omega) ⟨.inr rfl, ?_, trivial, rfl⟩
    show VEq0 (vb (decide (((m.toNat / 2 ^ k : Nat) : Int).tmod ((2 : Nat) : Int) = 1))) (vb (bit m k))
    rw [← bit_div, ← Int.ofNat_tmod]; exact rfl
theorem one_nat {k : Nat} (h : k < 64) : (one k).toNat = 2 ^ k := by
  unfold one
  rw [BitVec.toNat_shiftLeft, Nat.shiftLeft_eq]
  show 1 * 2 ^ k % 2 ^ 64 = _
  rw [Nat.one_mul]
  exact Nat.mod_eq_of_lt (Nat.pow_lt_pow_right (by omega) h)
theorem rone_spec (i : Nat) (hi : i < 64) : Pure PG 94 [vi (i : Int)] (vm (one i)) [] := by
  refine Proc.mk (cfg 19) tysOK [] Tryd.func94 rfl (by kernel_rfl) rfl rfl rfl ?_
  intro C x
  refine x.cond rfl trivial (fun h1 => ?_) (fun h1 => ?_)
  · have h1 : (decide ((i : Int) < 0) || decide ((i : Int) > 63)) = true := h1
    simp at h1; omega
  refine x.loop (α := { k : Nat // k ≤ i }) (fun y => ⟨[(0, vi (i : Int)), (3, vm (one y.1)), (4, vi (y.1 : Int))], [], 0⟩) (fun y => i - y.1) ⟨0, by omega⟩ rfl trivial ⟨⟨rfl, rfl, rfl, trivial⟩, trivial, rfl⟩ (fun y => ?_)
  obtain ⟨k, hk⟩ := y
  change Go C _ ⟨[(0, vi (i : Int)), (3, vm (one k)), (4, vi (k : Int))], [], 0⟩ _
  refine x.cond rfl trivial (fun h2 => ?_) (fun h2 => ?_)
  · have h2 : k < i := by have := of_decide_eq_true h2; omega
    refine x.back rfl ?_ ⟨⟨k + 1, by omega⟩, by show i - (k + 1) < i - k; omega, ⟨rfl, ?_, (show VEq0 (vi ((k : Int) + 1)) (vi ((k + 1 : Nat) : Int)) by rw [Int.natCast_add]; rfl), trivial⟩, trivial, rfl⟩
    · simp only [AllP, inI64]; omega
    · show VEq0 (.d (.int .u64 (IntKind.u64.wrap (((one k).toNat : Int) * 2)))) (vm (one (k + 1)))
      have h3 : 2 ^ (k + 1) < 18446744073709551616 := (Nat.pow_lt_pow_right (a := 2) (by omega) (show k + 1 < 64 by omega))
      have e : ((one k).toNat : Int) * 2 = ((2 ^ (k + 1) : Nat) : Int) := by rw [one_nat (by omega), Nat.pow_succ]; omega
      unfold vm dm
      rw [e, wrap_nat h3, one_nat (by omega)]; exact rfl
  · have h2 : k = i := by have := of_decide_eq_false h2; omega
    subst h2
    exact x.exit rfl trivial ⟨.inr rfl, rfl, trivial, rfl⟩
theorem rwith_spec (m : M64) (i : Nat) (hi : i < 64) : Pure PG 95 [vm m, vi (i : Int)] (vm (m ||| one i)) [] := by
  refine Proc.mk (cfg 13) tysOK [] Tryd.func95 rfl (by kernel_rfl) rfl rfl rfl ?_
  intro C x
  refine x.pure rfl trivial rfl (rhas_spec m i hi) ⟨rfl, rfl, trivial⟩ ?_
  refine x.cond rfl trivial (fun h1 => ?_) (fun h1 => ?_)
  · have h1 : bit m i = true := h1
    refine x.exit rfl trivial ⟨.inr rfl, ?_, trivial, rfl⟩
    show VEq0 (vm m) (vm (m ||| one i))
    have e : m ||| one i = m := m_ext fun j hj => by
      rw [bit_or, bit_one hi]
      by_cases e : j = i
      · subst e; rw [h1]; rfl
      · simp [e]
    rw [e]; exact rfl
  · have h1 : bit m i = false := h1
    refine x.pure rfl trivial rfl (rone_spec i hi) ⟨rfl, trivial⟩ ?_
    refine x.exit rfl trivial ⟨.inr rfl, ?_, trivial, rfl⟩
    show VEq0 (.d (.int .u64 (IntKind.u64.wrap ((m.toNat : Int) + ((one i).toNat : Int))))) (vm (m ||| one i))
    have h0 : m &&& one i = 0#64 := m_zero.2 fun j hj => by
      rw [bit_and, bit_one hi]
      by_cases e : j = i
      · subst e; rw [h1]; rfl
      · simp [e]
    have e : m ||| one i = m + one i := (BitVec.add_eq_or_of_and_eq_zero m (one i) h0).symm
    unfold vm dm
    rw [e, BitVec.toNat_add, wrap_u64, ← Int.natCast_add, Int.natCast_emod]; exact rfl
theorem above_spec (up : List M64) (a b : Nat) (ha : a < up.length) (hb : b < 64) : Pure PG 96 [vU up, vi (a : Int), vi (b : Int)] (vb (bit (upA up a) b)) [] := by
  refine Proc.mk (cfg 13) tysOK [] Tryd.func96 rfl (by kernel_rfl) rfl rfl rfl ?_
  intro C x
  refine x.pure rfl (by simp only [AllP]; omega) rfl (rhas_spec (upA up a) b hb) ⟨rfl, rfl, trivial⟩ ?_
  exact x.exit rfl trivial ⟨.inr rfl, rfl, trivial, rfl⟩
end Go.Proofs.YtcdfjaaipbjpnaaDoor

/- Policies: the answer's Order, Join, Meet, Right. -/
namespace Go.Proofs.YtcdfjaaipbjpnaaDoor
open Go.Sx
set_option linter.unusedVariables false
set_option linter.unusedSimpArgs false
set_option maxRecDepth 100000

/-- Does it hold at all of these places? -/
def allF (p : Nat → Bool) : Nat → Nat → Bool
  | 0, _ => true
  | n + 1, i => p i && allF p n (i + 1)
theorem allF_iff {p : Nat → Bool} : ∀ {n i : Nat}, allF p n i = true ↔ ∀ j, i ≤ j → j < i + n → p j = true
  | 0, i => ⟨fun _ j h1 h2 => by omega, fun _ => rfl⟩
  | n + 1, i => by
    rw [allF, Bool.and_eq_true, allF_iff]
    constructor
    · rintro ⟨h1, h2⟩ j h3 h4
      by_cases e : j = i
      · subst e; exact h1
      · exact h2 j (by omega) (by omega)
    · intro h
      exact ⟨h i (Nat.le_refl _) (by omega), fun j h1 h2 => h j (by omega) (by omega)⟩
theorem idxF_iff {p : Nat → Bool} : ∀ {n i : Nat}, 0 ≤ idxF p n i ↔ ∃ j, i ≤ j ∧ j < i + n ∧ p j = true
  | 0, i => ⟨fun h => by simp [idxF] at h, fun ⟨j, h1, h2, _⟩ => by omega⟩
  | n + 1, i => by
    rw [idxF]
    by_cases h : p i = true
    · rw [if_pos h]
      exact ⟨fun _ => ⟨i, Nat.le_refl _, by omega, h⟩, fun _ => by omega⟩
    · rw [if_neg h, idxF_iff]
      constructor
      · rintro ⟨j, h1, h2, h3⟩; exact ⟨j, by omega, by omega, h3⟩
      · rintro ⟨j, h1, h2, h3⟩
        have : j ≠ i := fun e => by subst e; exact h h3
        exact ⟨j, by omega, by omega, h3⟩
/-- Is k a least one above a and b? -/
def joinP (up : List M64) (a b k : Nat) : Bool := (bit (upA up a) k && bit (upA up b) k) && allF (fun m => !bit (upA up a) m || !bit (upA up b) m || bit (upA up k) m) up.length 0
def joinV (up : List M64) (a b : Nat) : Int := idxF (joinP up a b) up.length 0
def meetP (up : List M64) (a b k : Nat) : Bool := (bit (upA up k) a && bit (upA up k) b) && allF (fun m => !bit (upA up m) a || !bit (upA up m) b || bit (upA up m) k) up.length 0
def meetV (up : List M64) (a b : Nat) : Int := idxF (meetP up a b) up.length 0
structure JM (up : List M64) (tot : Bool) (q : Nat → Bool) where
  m : Nat
  is : Bool
  hm : m ≤ up.length
  same : (is && allF q (up.length - m) m) = tot
set_option maxHeartbeats 2000000 in
theorem join_spec (up : List M64) (a b : Nat) (hl : up.length ≤ 64) (ha : a < up.length) (hb : b < up.length) : Pure PG 98 [vU up, vi (a : Int), vi (b : Int)] (vi (joinV up a b)) [] := by
  refine Proc.mk (cfg 55) tysOK [] Tryd.func98 rfl (by kernel_rfl) rfl rfl rfl ?_
  intro C x
  refine x.loop (α := { k : Nat // k ≤ up.length ∧ idxF (joinP up a b) (up.length - k) k = joinV up a b }) (fun y => ⟨[(0, vU up), (1, vi (a : Int)), (2, vi (b : Int)), (7, vi (y.1 : Int))], [], 0⟩) (fun y => up.length - y.1) ⟨0, by omega, rfl⟩ rfl trivial ⟨⟨veq_d rfl, rfl, rfl, rfl, trivial⟩, trivial, rfl⟩ (fun y => ?_)
  obtain ⟨k, hk, hsame⟩ := y
  change Go C _ ⟨[(0, vU up), (1, vi (a : Int)), (2, vi (b : Int)), (7, vi (k : Int))], [], 0⟩ _
  refine x.cond rfl trivial (fun h1 => ?_) (fun h1 => ?_)
  rotate_left
  · have h1 : k = up.length := by have := of_decide_eq_false h1; omega
    refine x.exit rfl trivial ⟨.inr rfl, ?_, trivial, rfl⟩
    show VEq0 (vi (-1)) (vi (joinV up a b))
    rw [← hsame, show up.length - k = 0 by omega]; exact rfl
  have h1 : k < up.length := by have := of_decide_eq_true h1; omega
  rw [show up.length - k = (up.length - (k + 1)) + 1 by omega, idxF] at hsame
  refine x.pure rfl trivial rfl (above_spec up a k ha (by omega)) ⟨veq_d rfl, rfl, rfl, trivial⟩ ?_
  refine x.pureG rfl trivial rfl (fun _ => above_spec up b k hb (by omega)) rfl ⟨veq_d rfl, rfl, rfl, trivial⟩ ?_
  refine x.loop (α := JM up (joinP up a b k) (fun m => !bit (upA up a) m || !bit (upA up b) m || bit (upA up k) m)) (fun y => ⟨[(0, vU up), (1, vi (a : Int)), (2, vi (b : Int)), (7, vi (k : Int)), (8, vb y.is), (9, vi (y.m : Int))], [], 0⟩) (fun y => up.length - y.m) ⟨0, bit (upA up a) k && bit (upA up b) k, by omega, rfl⟩ rfl trivial ⟨⟨veq_d rfl, rfl, rfl, rfl, rfl, rfl, trivial⟩, trivial, rfl⟩ (fun y => ?_)
  obtain ⟨m, is, hm, hs⟩ := y
  change Go C _ ⟨[(0, vU up), (1, vi (a : Int)), (2, vi (b : Int)), (7, vi (k : Int)), (8, vb is), (9, vi (m : Int))], [], 0⟩ _
  refine x.cond rfl trivial (fun h2 => ?_) (fun h2 => ?_)
  · have h2 : (decide ((m : Int) < up.length) && is) = true := h2
    simp only [Bool.and_eq_true, decide_eq_true_eq] at h2
    have h3 : m < up.length := by omega
    rw [h2.2, Bool.true_and, show up.length - m = (up.length - (m + 1)) + 1 by omega, allF] at hs
    refine x.pure rfl trivial rfl (above_spec up a m ha (by omega)) ⟨veq_d rfl, rfl, rfl, trivial⟩ ?_
    refine x.pureG rfl trivial rfl (fun _ => above_spec up b m hb (by omega)) rfl ⟨veq_d rfl, rfl, rfl, trivial⟩ ?_
    refine x.pureG rfl trivial rfl (fun _ => above_spec up k m h1 (by omega)) rfl ⟨veq_d rfl, rfl, rfl, trivial⟩ ?_
    refine x.back rfl ?_ ⟨⟨m + 1, _, by omega, hs⟩, by show up.length - (m + 1) < up.length - m; omega, ⟨veq_d rfl, rfl, rfl, rfl, rfl, (show VEq0 (vi ((m : Int) + 1)) (vi ((m + 1 : Nat) : Int)) by rw [Int.natCast_add]; rfl), trivial⟩, trivial, rfl⟩
    simp only [AllP, inI64]; omega
  have h2 : (decide ((m : Int) < up.length) && is) = false := h2
  have htot : is = joinP up a b k := by
    rw [← hs]
    cases is with
    | false => rfl
    | true =>
      have : ¬ (m : Int) < up.length := by simpa using h2
      rw [show up.length - m = 0 by omega]; rfl
  refine x.cond rfl trivial (fun h3 => ?_) (fun h3 => ?_)
  · have h3 : is = true := h3
    rw [h3] at htot
    rw [if_pos htot.symm] at hsame
    refine x.exit rfl trivial ⟨.inr rfl, ?_, trivial, rfl⟩
    show VEq0 (vi (k : Int)) (vi (joinV up a b))
    rw [← hsame]; exact rfl
  · have h3 : is = false := h3
    rw [h3] at htot
    rw [if_neg (by rw [← htot]; simp)] at hsame
    refine x.back rfl ?_ ⟨⟨k + 1, by omega, hsame⟩, by show up.length - (k + 1) < up.length - k; omega, ⟨veq_d rfl, rfl, rfl, (show VEq0 (vi ((k : Int) + 1)) (vi ((k + 1 : Nat) : Int)) by rw [Int.natCast_add]; rfl), trivial⟩, trivial, rfl⟩
    simp only [AllP, inI64]; omega
set_option maxHeartbeats 2000000 in
theorem meet_spec (up : List M64) (a b : Nat) (hl : up.length ≤ 64) (ha : a < up.length) (hb : b < up.length) : Pure PG 99 [vU up, vi (a : Int), vi (b : Int)] (vi (meetV up a b)) [] := by
  refine Proc.mk (cfg 55) tysOK [] Tryd.func99 rfl (by kernel_rfl) rfl rfl rfl ?_
  intro C x
  refine x.loop (α := { k : Nat // k ≤ up.length ∧ idxF (meetP up a b) (up.length - k) k = meetV up a b }) (fun y => ⟨[(0, vU up), (1, vi (a : Int)), (2, vi (b : Int)), (7, vi (y.1 : Int))], [], 0⟩) (fun y => up.length - y.1) ⟨0, by omega, rfl⟩ rfl trivial ⟨⟨veq_d rfl, rfl, rfl, rfl, trivial⟩, trivial, rfl⟩ (fun y => ?_)
  obtain ⟨k, hk, hsame⟩ := y
  change Go C _ ⟨[(0, vU up), (1, vi (a : Int)), (2, vi (b : Int)), (7, vi (k : Int))], [], 0⟩ _
  refine x.cond rfl trivial (fun h1 => ?_) (fun h1 => ?_)
  rotate_left
  · have h1 : k = up.length := by have := of_decide_eq_false h1; omega
    refine x.exit rfl trivial ⟨.inr rfl, ?_, trivial, rfl⟩
    show VEq0 (vi (-1)) (vi (meetV up a b))
    rw [← hsame, show up.length - k = 0 by omega]; exact rfl
  have h1 : k < up.length := by have := of_decide_eq_true h1; omega
  rw [show up.length - k = (up.length - (k + 1)) + 1 by omega, idxF] at hsame
  refine x.pure rfl trivial rfl (above_spec up k a h1 (by omega)) ⟨veq_d rfl, rfl, rfl, trivial⟩ ?_
  refine x.pureG rfl trivial rfl (fun _ => above_spec up k b h1 (by omega)) rfl ⟨veq_d rfl, rfl, rfl, trivial⟩ ?_
  refine x.loop (α := JM up (meetP up a b k) (fun m => !bit (upA up m) a || !bit (upA up m) b || bit (upA up m) k)) (fun y => ⟨[(0, vU up), (1, vi (a : Int)), (2, vi (b : Int)), (7, vi (k : Int)), (8, vb y.is), (9, vi (y.m : Int))], [], 0⟩) (fun y => up.length - y.m) ⟨0, bit (upA up k) a && bit (upA up k) b, by omega, rfl⟩ rfl trivial ⟨⟨veq_d rfl, rfl, rfl, rfl, rfl, rfl, trivial⟩, trivial, rfl⟩ (fun y => ?_)
  obtain ⟨m, is, hm, hs⟩ := y
  change Go C _ ⟨[(0, vU up), (1, vi (a : Int)), (2, vi (b : Int)), (7, vi (k : Int)), (8, vb is), (9, vi (m : Int))], [], 0⟩ _
  refine x.cond rfl trivial (fun h2 => ?_) (fun h2 => ?_)
  · have h2 : (decide ((m : Int) < up.length) && is) = true := h2
    simp only [Bool.and_eq_true, decide_eq_true_eq] at h2
    have h3 : m < up.length := by omega
    rw [h2.2, Bool.true_and, show up.length - m = (up.length - (m + 1)) + 1 by omega, allF] at hs
    refine x.pure rfl trivial rfl (above_spec up m a h3 (by omega)) ⟨veq_d rfl, rfl, rfl, trivial⟩ ?_
    refine x.pureG rfl trivial rfl (fun _ => above_spec up m b h3 (by omega)) rfl ⟨veq_d rfl, rfl, rfl, trivial⟩ ?_
    refine x.pureG rfl trivial rfl (fun _ => above_spec up m k h3 (by omega)) rfl ⟨veq_d rfl, rfl, rfl, trivial⟩ ?_
    refine x.back rfl ?_ ⟨⟨m + 1, _, by omega, hs⟩, by show up.length - (m + 1) < up.length - m; omega, ⟨veq_d rfl, rfl, rfl, rfl, rfl, (show VEq0 (vi ((m : Int) + 1)) (vi ((m + 1 : Nat) : Int)) by rw [Int.natCast_add]; rfl), trivial⟩, trivial, rfl⟩
    simp only [AllP, inI64]; omega
  have h2 : (decide ((m : Int) < up.length) && is) = false := h2
  have htot : is = meetP up a b k := by
    rw [← hs]
    cases is with
    | false => rfl
    | true =>
      have : ¬ (m : Int) < up.length := by simpa using h2
      rw [show up.length - m = 0 by omega]; rfl
  refine x.cond rfl trivial (fun h3 => ?_) (fun h3 => ?_)
  · have h3 : is = true := h3
    rw [h3] at htot
    rw [if_pos htot.symm] at hsame
    refine x.exit rfl trivial ⟨.inr rfl, ?_, trivial, rfl⟩
    show VEq0 (vi (k : Int)) (vi (meetV up a b))
    rw [← hsame]; exact rfl
  · have h3 : is = false := h3
    rw [h3] at htot
    rw [if_neg (by rw [← htot]; simp)] at hsame
    refine x.back rfl ?_ ⟨⟨k + 1, by omega, hsame⟩, by show up.length - (k + 1) < up.length - k; omega, ⟨veq_d rfl, rfl, rfl, (show VEq0 (vi ((k : Int) + 1)) (vi ((k + 1 : Nat) : Int)) by rw [Int.natCast_add]; rfl), trivial⟩, trivial, rfl⟩
    simp only [AllP, inI64]; omega

/-! ### may an order be -/
def rowQ (up : List M64) (i k : Nat) : Bool := !bit (upA up i) k || !((decide (up.length ≤ k) || (!decide (k = i) && bit (upA up k) i)) || !decide (upA up k ||| upA up i = upA up i))
def rowR (up : List M64) (i : Nat) : Bool := bit (upA up i) i && allF (rowQ up i) 64 0
def orderR (up : List M64) : Bool := (decide (1 ≤ up.length) && decide (up.length ≤ 64)) && allF (rowR up) up.length 0
theorem or_eq_m (x y : M64) : decide (bitI .or .u64 (x.toNat : Int) (y.toNat : Int) = (y.toNat : Int)) = decide (x ||| y = y) := by
  rw [or_m, decide_eq_decide]
  constructor
  · intro h; apply BitVec.eq_of_toNat_eq; omega
  · intro h; rw [h]
set_option maxHeartbeats 4000000 in
theorem rorder_spec (up : List M64) (hl : inI64 (up.length : Int)) : Pure PG 97 [vU up] (vb (orderR up)) [] := by
  refine Proc.mk (cfg 64) tysOK [] Tryd.func97 rfl (by kernel_rfl) rfl rfl rfl ?_
  intro C x
  refine x.cond rfl trivial (fun h0 => ?_) (fun h0 => ?_)
  · have h0 : (decide ((up.length : Int) < 1) || decide ((up.length : Int) > 64)) = true := h0
    simp only [Bool.or_eq_true, decide_eq_true_eq] at h0
    refine x.exit rfl trivial ⟨.inr rfl, ?_, trivial, rfl⟩
    show VEq0 (vb false) (vb (orderR up))
    have : (decide (1 ≤ up.length) && decide (up.length ≤ 64)) = false := by
      simp only [Bool.and_eq_false_iff, decide_eq_false_iff_not]; omega
    rw [orderR, this]; exact rfl
  have h0 : (decide ((up.length : Int) < 1) || decide ((up.length : Int) > 64)) = false := h0
  simp only [Bool.or_eq_false_iff, decide_eq_false_iff_not] at h0
  have hdec : (decide (1 ≤ up.length) && decide (up.length ≤ 64)) = true := by
    simp only [Bool.and_eq_true, decide_eq_true_eq]; omega
  have hO : orderR up = allF (rowR up) up.length 0 := by rw [orderR, hdec, Bool.true_and]
  refine x.loop (α := { i : Nat // i ≤ up.length ∧ allF (rowR up) (up.length - i) i = orderR up }) (fun y => ⟨[(0, vU up), (3, vi (y.1 : Int))], [], 0⟩) (fun y => up.length - y.1) ⟨0, by omega, hO.symm⟩ rfl trivial ⟨⟨veq_d rfl, rfl, trivial⟩, trivial, rfl⟩ (fun y => ?_)
  obtain ⟨i, hi, hsame⟩ := y
  change Go C _ ⟨[(0, vU up), (3, vi (i : Int))], [], 0⟩ _
  refine x.cond rfl trivial (fun h1 => ?_) (fun h1 => ?_)
  rotate_left
  · have h1 : i = up.length := by have := of_decide_eq_false h1; omega
    refine x.exit rfl trivial ⟨.inr rfl, ?_, trivial, rfl⟩
    show VEq0 (vb true) (vb (orderR up))
    rw [← hsame, show up.length - i = 0 by omega]; exact rfl
  have h1 : i < up.length := by have := of_decide_eq_true h1; omega
  rw [show up.length - i = (up.length - (i + 1)) + 1 by omega, allF] at hsame
  refine x.pure rfl trivial rfl (above_spec up i i h1 (by omega)) ⟨veq_d rfl, rfl, rfl, trivial⟩ ?_
  refine x.cond rfl trivial (fun h2 => ?_) (fun h2 => ?_)
  · have h2 : (!bit (upA up i) i) = true := h2
    simp only [Bool.not_eq_true'] at h2
    refine x.exit rfl trivial ⟨.inr rfl, ?_, trivial, rfl⟩
    show VEq0 (vb false) (vb (orderR up))
    rw [← hsame, rowR, h2]; exact rfl
  have h2 : (!bit (upA up i) i) = false := h2
  simp only [Bool.not_eq_false'] at h2
  rw [rowR, h2, Bool.true_and] at hsame
  refine x.loop (α := { k : Nat // k ≤ 64 ∧ (allF (rowQ up i) (64 - k) k && allF (rowR up) (up.length - (i + 1)) (i + 1)) = orderR up }) (fun y => ⟨[(0, vU up), (3, vi (i : Int)), (4, vi (y.1 : Int))], [], 0⟩) (fun y => 64 - y.1) ⟨0, by omega, hsame⟩ rfl trivial ⟨⟨veq_d rfl, rfl, rfl, trivial⟩, trivial, rfl⟩ (fun y => ?_)
  obtain ⟨k, hk, hs⟩ := y
  change Go C _ ⟨[(0, vU up), (3, vi (i : Int)), (4, vi (k : Int))], [], 0⟩ _
  refine x.cond rfl trivial (fun h3 => ?_) (fun h3 => ?_)
  rotate_left
  · have h3 : k = 64 := by have := of_decide_eq_false h3; omega
    subst h3
    rw [allF, Bool.true_and] at hs
    refine x.back rfl ?_ ⟨⟨i + 1, by omega, hs⟩, by show up.length - (i + 1) < up.length - i; omega, ⟨veq_d rfl, (show VEq0 (vi ((i : Int) + 1)) (vi ((i + 1 : Nat) : Int)) by rw [Int.natCast_add]; rfl), trivial⟩, trivial, rfl⟩
    simp only [AllP, inI64]; omega
  have h3 : k < 64 := by have := of_decide_eq_true h3; omega
  rw [show 64 - k = (64 - (k + 1)) + 1 by omega, allF] at hs
  refine x.pure rfl trivial rfl (above_spec up i k h1 h3) ⟨veq_d rfl, rfl, rfl, trivial⟩ ?_
  refine x.cond rfl trivial (fun h4 => ?_) (fun h4 => ?_)
  · have h4 : (!bit (upA up i) k) = true := h4
    simp only [Bool.not_eq_true'] at h4
    rw [rowQ, h4] at hs
    refine x.back rfl ?_ ⟨⟨k + 1, by omega, hs⟩, by show 64 - (k + 1) < 64 - k; omega, ⟨veq_d rfl, rfl, (show VEq0 (vi ((k : Int) + 1)) (vi ((k + 1 : Nat) : Int)) by rw [Int.natCast_add]; rfl), trivial⟩, trivial, rfl⟩
    simp only [AllP, inI64]; omega
  have h4 : (!bit (upA up i) k) = false := h4
  simp only [Bool.not_eq_false'] at h4
  refine x.quiet rfl trivial mixedP (by kernel_rfl) ?_
  refine x.qcallG (args := [vU up, vi (k : Int), vi (i : Int)]) (r := vb (bit (upA up k) i)) rfl trivial rfl (fun hg _ => above_spec up k i (by have := of_decide_eq_false hg; omega) (by omega)) rfl rfl ⟨veq_d rfl, rfl, rfl, trivial⟩ ?_
  have e1 : decide ((up.length : Int) ≤ (k : Int)) = decide (up.length ≤ k) := by rw [decide_eq_decide]; omega
  have e2 : decide ((k : Int) = (i : Int)) = decide (k = i) := by rw [decide_eq_decide]; omega
  refine x.qdone rfl ?_ ?_
  · have key : (decide ((up.length : Int) ≤ (k : Int)) || !decide ((k : Int) = (i : Int)) && bit (upA up k) i) = false → 0 ≤ (k : Int) ∧ (k : Int) < up.length := fun h => by
      simp only [Bool.or_eq_false_iff, decide_eq_false_iff_not] at h
      omega
    exact ⟨key, fun _ => by omega, fun _ => by omega⟩
  refine x.cond rfl trivial (fun h5 => ?_) (fun h5 => ?_)
  · have h5 : ((decide ((up.length : Int) ≤ (k : Int)) || (!decide ((k : Int) = (i : Int)) && bit (upA up k) i)) || !decide (bitI .or .u64 ((upA up k).toNat : Int) ((upA up i).toNat : Int) = ((upA up i).toNat : Int))) = true := h5
    rw [e1, e2, or_eq_m] at h5
    rw [rowQ, h4, h5] at hs
    refine x.exit rfl trivial ⟨.inr rfl, ?_, trivial, rfl⟩
    show VEq0 (vb false) (vb (orderR up))
    rw [← hs]; exact rfl
  · have h5 : ((decide ((up.length : Int) ≤ (k : Int)) || (!decide ((k : Int) = (i : Int)) && bit (upA up k) i)) || !decide (bitI .or .u64 ((upA up k).toNat : Int) ((upA up i).toNat : Int) = ((upA up i).toNat : Int))) = false := h5
    rw [e1, e2, or_eq_m] at h5
    rw [rowQ, h4, h5] at hs
    refine x.back rfl ?_ ⟨⟨k + 1, by omega, hs⟩, by show 64 - (k + 1) < 64 - k; omega, ⟨veq_d rfl, rfl, (show VEq0 (vi ((k : Int) + 1)) (vi ((k + 1 : Nat) : Int)) by rw [Int.natCast_add]; rfl), trivial⟩, trivial, rfl⟩
    simp only [AllP, inI64]; omega

/-! ### is it a lattice -/
def pairQ (up : List M64) (a b : Nat) : Bool := decide (0 ≤ joinV up a b) && decide (0 ≤ meetV up a b)
def latR (up : List M64) (a : Nat) : Bool := allF (pairQ up a) a 0
def rightR (up : List M64) : Bool := orderR up && allF (latR up) up.length 0
theorem orderR_len {up : List M64} (h : orderR up = true) : 1 ≤ up.length ∧ up.length ≤ 64 := by
  unfold orderR at h
  simp only [Bool.and_eq_true, decide_eq_true_eq] at h
  exact h.1
set_option maxHeartbeats 4000000 in
theorem rright_spec (up : List M64) (hl : inI64 (up.length : Int)) : Pure PG 58 [vU up] (vb (rightR up)) [] := by
  refine Proc.mk (cfg 31) tysOK [] Tryd.func58 rfl (by kernel_rfl) rfl rfl rfl ?_
  intro C x
  refine x.pure rfl trivial rfl (rorder_spec up hl) ⟨veq_d rfl, trivial⟩ ?_
  refine x.cond rfl trivial (fun h0 => ?_) (fun h0 => ?_)
  · have h0 : (!orderR up) = true := h0
    simp only [Bool.not_eq_true'] at h0
    refine x.exit rfl trivial ⟨.inr rfl, ?_, trivial, rfl⟩
    show VEq0 (vb false) (vb (rightR up))
    rw [rightR, h0]; exact rfl
  have h0 : (!orderR up) = false := h0
  simp only [Bool.not_eq_false'] at h0
  obtain ⟨l1, l2⟩ := orderR_len h0
  refine x.loop (α := { a : Nat // a ≤ up.length ∧ allF (latR up) (up.length - a) a = rightR up }) (fun y => ⟨[(0, vU up), (3, vi (y.1 : Int))], [], 0⟩) (fun y => up.length - y.1) ⟨0, by omega, by rw [rightR, h0]; rfl⟩ rfl trivial ⟨⟨veq_d rfl, rfl, trivial⟩, trivial, rfl⟩ (fun y => ?_)
  obtain ⟨a, ha, hsame⟩ := y
  change Go C _ ⟨[(0, vU up), (3, vi (a : Int))], [], 0⟩ _
  refine x.cond rfl trivial (fun h1 => ?_) (fun h1 => ?_)
  rotate_left
  · have h1 : a = up.length := by have := of_decide_eq_false h1; omega
    refine x.exit rfl trivial ⟨.inr rfl, ?_, trivial, rfl⟩
    show VEq0 (vb true) (vb (rightR up))
    rw [← hsame, show up.length - a = 0 by omega]; exact rfl
  have h1 : a < up.length := by have := of_decide_eq_true h1; omega
  rw [show up.length - a = (up.length - (a + 1)) + 1 by omega, allF, latR] at hsame
  refine x.loop (α := { b : Nat // b ≤ a ∧ (allF (pairQ up a) (a - b) b && allF (latR up) (up.length - (a + 1)) (a + 1)) = rightR up }) (fun y => ⟨[(0, vU up), (3, vi (a : Int)), (4, vi (y.1 : Int))], [], 0⟩) (fun y => a - y.1) ⟨0, by omega, hsame⟩ rfl trivial ⟨⟨veq_d rfl, rfl, rfl, trivial⟩, trivial, rfl⟩ (fun y => ?_)
  obtain ⟨b, hb, hs⟩ := y
  change Go C _ ⟨[(0, vU up), (3, vi (a : Int)), (4, vi (b : Int))], [], 0⟩ _
  refine x.cond rfl trivial (fun h3 => ?_) (fun h3 => ?_)
  rotate_left
  · have h3 : b = a := by have := of_decide_eq_false h3; omega
    subst h3
    rw [Nat.sub_self, allF, Bool.true_and] at hs
    refine x.back rfl ?_ ⟨⟨b + 1, by omega, hs⟩, by show up.length - (b + 1) < up.length - b; omega, ⟨veq_d rfl, (show VEq0 (vi ((b : Int) + 1)) (vi ((b + 1 : Nat) : Int)) by rw [Int.natCast_add]; rfl), trivial⟩, trivial, rfl⟩
    simp only [AllP, inI64]; omega
  have h3 : b < a := by have := of_decide_eq_true h3; omega
  rw [show a - b = (a - (b + 1)) + 1 by omega, allF] at hs
  refine x.pure rfl trivial rfl (join_spec up a b l2 h1 (by omega)) ⟨veq_d rfl, rfl, rfl, trivial⟩ ?_
  refine x.pureG rfl trivial rfl (fun _ => meet_spec up a b l2 h1 (by omega)) rfl ⟨veq_d rfl, rfl, rfl, trivial⟩ ?_
  have e1 : (decide (joinV up a b < 0) || decide (meetV up a b < 0)) = !pairQ up a b := by
    unfold pairQ
    rw [Bool.not_and, show (!decide (0 ≤ joinV up a b)) = decide (joinV up a b < 0) by rw [← decide_not, decide_eq_decide]; omega, show (!decide (0 ≤ meetV up a b)) = decide (meetV up a b < 0) by rw [← decide_not, decide_eq_decide]; omega]
  refine x.cond rfl trivial (fun h5 => ?_) (fun h5 => ?_)
  · have h5 : (decide (joinV up a b < 0) || decide (meetV up a b < 0)) = true := h5
    rw [e1] at h5
    simp only [Bool.not_eq_true'] at h5
    rw [h5] at hs
    refine x.exit rfl trivial ⟨.inr rfl, ?_, trivial, rfl⟩
    show VEq0 (vb false) (vb (rightR up))
    rw [← hs]; exact rfl
  · have h5 : (decide (joinV up a b < 0) || decide (meetV up a b < 0)) = false := h5
    rw [e1] at h5
    simp only [Bool.not_eq_false'] at h5
    rw [h5, Bool.true_and] at hs
    refine x.back rfl ?_ ⟨⟨b + 1, by omega, hs⟩, by show a - (b + 1) < a - b; omega, ⟨veq_d rfl, rfl, (show VEq0 (vi ((b : Int) + 1)) (vi ((b + 1 : Nat) : Int)) by rw [Int.natCast_add]; rfl), trivial⟩, trivial, rfl⟩
    simp only [AllP, inI64]; omega
end Go.Proofs.YtcdfjaaipbjpnaaDoor

/- Policies, plain: what the answer calls a lattice is what the program calls one. -/
namespace Go.Proofs.YtcdfjaaipbjpnaaDoor
open Go.Sx
set_option linter.unusedVariables false
set_option linter.unusedSimpArgs false

theorem or_sub {x y : M64} : x ||| y = y ↔ ∀ j, bit x j = true → bit y j = true := by
  constructor
  · intro h j hj
    rw [← h, bit_or, hj]; rfl
  · intro h
    refine m_ext fun j hj => ?_
    rw [bit_or]
    cases hx : bit x j with
    | false => rfl
    | true => rw [h j hx]; rfl
theorem bit_lt {x : M64} {j : Nat} (h : bit x j = true) : j < 64 := by
  by_cases h64 : j < 64
  · exact h64
  · rw [bit_ge _ (by omega)] at h; cases h
theorem row_eq {up : List M64} (i : Nat) (h2 : up.length ≤ 64) : rowR up i = orderRow up i := by
  rw [Bool.eq_iff_iff]
  unfold rowR orderRow
  simp only [Bool.and_eq_true, allF_iff, decide_eq_true_eq, List.all_eq_true, mem_bits, zero_iff_sub]
  constructor
  · rintro ⟨ha, hb⟩
    have key : ∀ k, bit (upA up i) k = true → k < up.length ∧ ¬ (k ≠ i ∧ bit (upA up k) i = true) ∧ ∀ j, bit (upA up k) j = true → bit (upA up i) j = true := fun k hk => by
      have h := hb k (Nat.zero_le _) (by have := bit_lt hk; omega)
      unfold rowQ at h
      rw [hk] at h
      simp only [Bool.not_true, Bool.false_or, Bool.not_eq_true', Bool.or_eq_false_iff, decide_eq_false_iff_not, Bool.not_eq_false', decide_eq_true_eq, Bool.and_eq_false_iff] at h
      refine ⟨by omega, fun ⟨e1, e2⟩ => ?_, or_sub.1 h.2⟩
      rcases h.1.2 with e | e
      · exact e1 e
      · rw [e2] at e; cases e
    refine ⟨⟨ha, fun j hj => ?_⟩, fun k hk => ⟨(key k hk).2.2, ?_⟩⟩
    · rw [bit_ofP _ (bit_lt hj)]
      exact decide_eq_true (key j hj).1
    · have := (key k hk).2.1
      cases h : (decide (k ≠ i) && bit (upA up k) i) with
      | false => rfl
      | true =>
        simp only [Bool.and_eq_true, decide_eq_true_eq] at h
        exact absurd h this
  · rintro ⟨⟨ha, hb⟩, hc⟩
    refine ⟨ha, fun k _ hk => ?_⟩
    unfold rowQ
    cases hx : bit (upA up i) k with
    | false => rfl
    | true =>
      have e1 := hb k hx
      rw [bit_ofP _ (bit_lt hx)] at e1
      have e1 := of_decide_eq_true e1
      obtain ⟨e2, e3⟩ := hc k hx
      have e4 : upA up k ||| upA up i = upA up i := or_sub.2 e2
      rw [decide_eq_true e4, decide_eq_false (show ¬ up.length ≤ k by omega)]
      by_cases e : k = i
      · subst e; simp
      · simp [e] at e3
        simp [e, e3]
theorem all_range {n : Nat} {p : Nat → Bool} : allF p n 0 = (List.range n).all p := by
  rw [Bool.eq_iff_iff, allF_iff, List.all_eq_true]
  constructor
  · intro h j hj; exact h j (Nat.zero_le _) (by have := List.mem_range.1 hj; omega)
  · intro h j _ hj; exact h j (List.mem_range.2 (by omega))
theorem all_congr' {l : List Nat} {p q : Nat → Bool} (h : ∀ x ∈ l, p x = q x) : l.all p = l.all q := by
  rw [Bool.eq_iff_iff, List.all_eq_true, List.all_eq_true]
  exact ⟨fun hp x hx => by rw [← h x hx]; exact hp x hx, fun hp x hx => by rw [h x hx]; exact hp x hx⟩
theorem order_eq (up : List M64) : orderR up = orderM up := by
  unfold orderR orderM
  by_cases h : up.length ≤ 64
  · rw [all_range]
    congr 1
    exact all_congr' fun i _ => row_eq i h
  · rw [decide_eq_false h]; simp
theorem leastF_iff {up : List M64} {S : M64} : ∀ {l : List Nat}, 0 ≤ leastF up S l ↔ ∃ k ∈ l, ∀ j, bit S j = true → bit (upA up k) j = true
  | [] => by simp [leastF]
  | k :: r => by
    rw [leastF]
    by_cases h : S &&& ~~~ upA up k = 0#64
    · rw [if_pos h]
      exact ⟨fun _ => ⟨k, .head _, zero_iff_sub.1 h⟩, fun _ => by omega⟩
    · rw [if_neg h, leastF_iff]
      constructor
      · rintro ⟨j, h1, h2⟩; exact ⟨j, .tail _ h1, h2⟩
      · rintro ⟨j, h1, h2⟩
        rcases List.mem_cons.1 h1 with rfl | h1
        · exact absurd (zero_iff_sub.2 h2) h
        · exact ⟨j, h1, h2⟩
theorem join_iff {up : List M64} (ho : orderM up = true) {a b : Nat} (ha : a < up.length) (hb : b < up.length) : 0 ≤ joinV up a b ↔ 0 ≤ leastM up (upA up a &&& upA up b) := by
  unfold joinV leastM
  rw [idxF_iff, leastF_iff]
  have hin := inU_order ho ha
  constructor
  · rintro ⟨k, _, h1, h2⟩
    unfold joinP at h2
    simp only [Bool.and_eq_true, allF_iff] at h2
    obtain ⟨⟨e1, e2⟩, e3⟩ := h2
    refine ⟨k, mem_bits.2 (by rw [bit_and, e1, e2]; rfl), fun j hj => ?_⟩
    rw [bit_and, Bool.and_eq_true] at hj
    have := e3 j (Nat.zero_le _) (by have := hin j hj.1; omega)
    rw [hj.1, hj.2] at this
    simpa using this
  · rintro ⟨k, h1, h2⟩
    have h1 := mem_bits.1 h1
    rw [bit_and, Bool.and_eq_true] at h1
    refine ⟨k, Nat.zero_le _, by have := hin k h1.1; omega, ?_⟩
    unfold joinP
    simp only [Bool.and_eq_true, allF_iff]
    refine ⟨h1, fun m _ _ => ?_⟩
    cases e1 : bit (upA up a) m with
    | false => rfl
    | true =>
      cases e2 : bit (upA up b) m with
      | false => rfl
      | true => rw [h2 m (by rw [bit_and, e1, e2]; rfl)]; rfl
theorem bit_turned {up : List M64} (hl : up.length ≤ 64) {a : Nat} (ha : a < up.length) (j : Nat) : bit (upA (turnedM up) a) j = (decide (j < up.length) && bit (upA up j) a) := by
  rw [upA_turned up ha]
  by_cases h : j < 64
  · rw [bit_ofP _ h]
  · rw [bit_ge _ (by omega), decide_eq_false (show ¬ j < up.length by omega)]; rfl
theorem meet_iff {up : List M64} (hl : up.length ≤ 64) {a b : Nat} (ha : a < up.length) (hb : b < up.length) : 0 ≤ meetV up a b ↔ 0 ≤ leastM (turnedM up) (upA (turnedM up) a &&& upA (turnedM up) b) := by
  unfold meetV leastM
  rw [idxF_iff, leastF_iff]
  constructor
  · rintro ⟨k, _, h1, h2⟩
    have hk : k < up.length := by omega
    unfold meetP at h2
    simp only [Bool.and_eq_true, allF_iff] at h2
    obtain ⟨⟨e1, e2⟩, e3⟩ := h2
    refine ⟨k, mem_bits.2 (by rw [bit_and, bit_turned hl ha, bit_turned hl hb, e1, e2, decide_eq_true hk]; rfl), fun j hj => ?_⟩
    rw [bit_and, bit_turned hl ha, bit_turned hl hb, Bool.and_eq_true, Bool.and_eq_true, Bool.and_eq_true, decide_eq_true_eq] at hj
    have := e3 j (Nat.zero_le _) (by omega)
    rw [hj.1.2, hj.2.2] at this
    rw [bit_turned hl hk, decide_eq_true hj.1.1]
    simpa using this
  · rintro ⟨k, h1, h2⟩
    have h1 := mem_bits.1 h1
    rw [bit_and, bit_turned hl ha, bit_turned hl hb, Bool.and_eq_true, Bool.and_eq_true, Bool.and_eq_true, decide_eq_true_eq] at h1
    refine ⟨k, Nat.zero_le _, by omega, ?_⟩
    unfold meetP
    simp only [Bool.and_eq_true, allF_iff]
    refine ⟨⟨h1.1.2, h1.2.2⟩, fun m _ hm => ?_⟩
    cases e1 : bit (upA up m) a with
    | false => rfl
    | true =>
      cases e2 : bit (upA up m) b with
      | false => rfl
      | true =>
        have := h2 m (by rw [bit_and, bit_turned hl ha, bit_turned hl hb, e1, e2, decide_eq_true (show m < up.length by omega)]; rfl)
        rw [bit_turned hl h1.1.1, decide_eq_true (show m < up.length by omega), Bool.true_and] at this
        rw [this]; rfl
theorem right_eq (up : List M64) : rightR up = rightM up := by
  unfold rightR rightM
  rw [order_eq]
  cases ho : orderM up with
  | false => rfl
  | true =>
    obtain ⟨l1, l2⟩ := order_len ho
    rw [Bool.true_and, Bool.true_and, Bool.eq_iff_iff, Bool.and_eq_true, allF_iff]
    unfold latR eachM
    simp only [allF_iff, List.all_eq_true, List.mem_range, turned_len, decide_eq_true_eq]
    unfold pairQ
    simp only [Bool.and_eq_true, decide_eq_true_eq]
    constructor
    · intro h
      exact ⟨fun a ha b hb => (join_iff ho ha (by omega)).1 (h a (Nat.zero_le _) (by omega) b (Nat.zero_le _) (by omega)).1, fun a ha b hb => (meet_iff l2 ha (by omega)).1 (h a (Nat.zero_le _) (by omega) b (Nat.zero_le _) (by omega)).2⟩
    · rintro ⟨h1, h2⟩ a _ ha b _ hb
      exact ⟨(join_iff ho (by omega) (by omega)).2 (h1 a (by omega) b (by omega)), (meet_iff l2 (by omega) (by omega)).2 (h2 a (by omega) b (by omega))⟩
end Go.Proofs.YtcdfjaaipbjpnaaDoor

/- Policies, plain: the least order with some pairs. -/
namespace Go.Proofs.YtcdfjaaipbjpnaaDoor
open Go.Sx
set_option linter.unusedVariables false
set_option linter.unusedSimpArgs false

theorem or_self_m (x : M64) : x ||| x = x := or_sub.2 fun _ h => h
/-- What a pass over the rows does. -/
theorem wRow_eq (f : Nat → M64) (k : Nat) : ∀ (i r : Nat), wRow f k i r = if r < i ∧ bit (f r) k = true then f r ||| f k else f r
  | 0, r => by rw [wRow, if_neg (by omega)]
  | i + 1, r => by
    have hk : wRow f k i k = f k := by
      rw [wRow_eq f k i k]
      split
      · exact or_self_m _
      · rfl
    have hi : wRow f k i i = f i := by rw [wRow_eq f k i i, if_neg (by omega)]
    rw [wRow, wStep, hk, hi, wRow_eq f k i r]
    by_cases e : r = i
    · subst e
      rw [if_pos rfl]
      cases h : bit (f r) k with
      | true => rw [if_pos rfl, if_pos ⟨by omega, rfl⟩]
      | false => rw [if_neg (by simp), if_neg (by simp)]
    · rw [if_neg e]
      by_cases h : r < i ∧ bit (f r) k = true
      · rw [if_pos h, if_pos ⟨by omega, h.2⟩]
      · rw [if_neg h, if_neg (fun ⟨a, b⟩ => h ⟨by omega, b⟩)]
theorem bit_pairRow {ps : List (Nat × Nat)} {r j : Nat} : bit (pairRow ps r) j = true ↔ j < 64 ∧ (j = r ∨ (r, j) ∈ ps) := by
  unfold pairRow
  constructor
  · intro h
    have hj := bit_lt h
    rw [bit_ofP _ hj] at h
    exact ⟨hj, by simpa using h⟩
  · rintro ⟨hj, h⟩
    rw [bit_ofP _ hj]
    simpa using h
/-- Steps by places below k are taken along. -/
def TrB (n : Nat) (f : Nat → M64) (k : Nat) : Prop := ∀ i m j, i < n → m < n → m < k → bit (f i) m = true → bit (f m) j = true → bit (f i) j = true
structure WOK (n : Nat) (ps : List (Nat × Nat)) (f : Nat → M64) (k : Nat) : Prop where
  base : ∀ r j, r < n → bit (pairRow ps r) j = true → bit (f r) j = true
  inn : ∀ r, r < n → InU n (f r)
  tr : TrB n f k
  least : ∀ R : Nat → M64, (∀ r j, r < n → bit (pairRow ps r) j = true → bit (R r) j = true) → TrB n R n → ∀ r j, r < n → bit (f r) j = true → bit (R r) j = true
theorem wall_ok {n : Nat} {ps : List (Nat × Nat)} (hps : ∀ p ∈ ps, p.1 < n ∧ p.2 < n) : ∀ k, k ≤ n → WOK n ps (wAll n (pairRow ps) k) k
  | 0, _ => ⟨fun _ _ _ h => h, fun r hr j hj => by
      rcases (bit_pairRow.1 hj).2 with rfl | h
      · exact hr
      · exact (hps _ h).2, fun i m j _ _ h => by omega, fun R hb _ r j hr h => hb r j hr h⟩
  | k + 1, hk => by
    obtain ⟨b, inn, tr, least⟩ := wall_ok hps k (by omega)
    generalize hf : wAll n (pairRow ps) k = f at b inn tr least
    have hr' : ∀ r, wAll n (pairRow ps) (k + 1) r = if r < n ∧ bit (f r) k = true then f r ||| f k else f r := fun r => by
      rw [wAll, hf, wRow_eq]
    have hkn : k < n := by omega
    have in_iff : ∀ r j, r < n → (bit (wAll n (pairRow ps) (k + 1) r) j = true ↔ bit (f r) j = true ∨ (bit (f r) k = true ∧ bit (f k) j = true)) := fun r j hr => by
      rw [hr']
      by_cases h : bit (f r) k = true
      · rw [if_pos ⟨hr, h⟩, bit_or, Bool.or_eq_true]
        exact ⟨fun e => e.imp id fun e => ⟨h, e⟩, fun e => e.imp id fun e => e.2⟩
      · rw [if_neg (fun e => h e.2)]
        exact ⟨.inl, fun e => e.elim id fun e => absurd e.1 h⟩
    refine ⟨fun r j hr h => (in_iff r j hr).2 (.inl (b r j hr h)), fun r hr j hj => ?_, fun i m j hi hm hmk h1 h2 => ?_, fun R hb ht r j hr h => ?_⟩
    · rcases (in_iff r j hr).1 hj with h | ⟨_, h⟩
      · exact inn r hr j h
      · exact inn k hkn j h
    · rw [in_iff i j hi]
      have h1 := (in_iff i m hi).1 h1
      have h2 := (in_iff m j hm).1 h2
      by_cases e : m = k
      · subst e
        have h1 : bit (f i) m = true := h1.elim id fun e => e.1
        have h2 : bit (f m) j = true := h2.elim id fun e => e.2
        exact .inr ⟨h1, h2⟩
      · have hmk : m < k := by omega
        rcases h1 with h1 | ⟨h1, h1'⟩
        · rcases h2 with h2 | ⟨h2, h2'⟩
          · exact .inl (tr i m j hi hm hmk h1 h2)
          · exact .inr ⟨tr i m k hi hm hmk h1 h2, h2'⟩
        · rcases h2 with h2 | ⟨h2, h2'⟩
          · exact .inr ⟨h1, tr k m j hkn hm hmk h1' h2⟩
          · exact .inr ⟨h1, h2'⟩
    · rcases (in_iff r j hr).1 h with h | ⟨h, h'⟩
      · exact least R hb ht r j hr h
      · exact ht r k j hr hkn hkn (least R hb ht r k hr h) (least R hb ht k j hkn h')
/-- Rows between the pairs and the closure, along which steps are taken, are the closure. -/
theorem close_unique {n : Nat} {ps : List (Nat × Nat)} (hps : ∀ p ∈ ps, p.1 < n ∧ p.2 < n) {g : Nat → M64} (hb : ∀ r j, r < n → bit (pairRow ps r) j = true → bit (g r) j = true) (hc : ∀ r j, r < n → bit (g r) j = true → bit (closed n ps r) j = true)
    (ht : TrB n g n) {r : Nat} (hr : r < n) : g r = closed n ps r := by
  have h := wall_ok hps n (Nat.le_refl _)
  refine m_ext fun j _ => ?_
  rw [Bool.eq_iff_iff]
  exact ⟨hc r j hr, h.least g hb ht r j hr⟩
theorem closed_ok {n : Nat} {ps : List (Nat × Nat)} (hps : ∀ p ∈ ps, p.1 < n ∧ p.2 < n) : WOK n ps (closed n ps) n := wall_ok hps n (Nat.le_refl _)

/-! ### how much is left to add -/
def lack (m : M64) : Nat := 64 - (bits m).length
theorem bits_le (m : M64) : (bits m).length ≤ 64 := by
  unfold bits
  have := List.length_filter_le (fun i => bit m i) (List.range 64)
  rwa [List.length_range] at this
theorem flen (x : M64) (a : Nat) (l : List Nat) : ((a :: l).filter fun i => bit x i).length = (if bit x a = true then 1 else 0) + (l.filter fun i => bit x i).length := by
  by_cases h : bit x a = true
  · rw [if_pos h, List.filter_cons_of_pos (p := fun i => bit x i) h, List.length_cons]; omega
  · rw [if_neg h, List.filter_cons_of_neg (p := fun i => bit x i) h]; omega
theorem lack_lt {x y : M64} (h : ∀ j, bit x j = true → bit y j = true) (hne : x ≠ y) : lack y < lack x := by
  have hx : ∃ j, j < 64 ∧ bit x j = false ∧ bit y j = true := by
    refine Classical.byContradiction fun hn => hne (m_ext fun j hj => ?_)
    cases hxj : bit x j with
    | true => rw [h j hxj]
    | false =>
      cases hyj : bit y j with
      | false => rfl
      | true => exact absurd ⟨j, hj, hxj, hyj⟩ hn
  obtain ⟨j, hj, h1, h2⟩ := hx
  have hle : ∀ l : List Nat, (l.filter fun i => bit x i).length ≤ (l.filter fun i => bit y i).length := fun l => by
    induction l with
    | nil => exact Nat.le_refl _
    | cons b l ih =>
      rw [flen, flen]
      by_cases hb : bit x b = true
      · rw [if_pos hb, if_pos (h b hb)]; omega
      · rw [if_neg hb]; omega
  have hlen : ∀ l : List Nat, j ∈ l → (l.filter fun i => bit x i).length < (l.filter fun i => bit y i).length := fun l => by
    induction l with
    | nil => intro hm; cases hm
    | cons a l ih =>
      intro hm
      rw [flen, flen]
      rcases List.mem_cons.1 hm with rfl | hm
      · rw [if_neg (by rw [h1]; simp), if_pos h2]
        have := hle l; omega
      · have := ih hm
        by_cases hb : bit x a = true
        · rw [if_pos hb, if_pos (h a hb)]; omega
        · rw [if_neg hb]; omega
  have := hlen (List.range 64) (List.mem_range.2 hj)
  have hy := bits_le y
  unfold lack bits at *
  omega
def lackN (g : Nat → M64) : Nat → Nat
  | 0 => 0
  | n + 1 => lack (g n) + lackN g n
theorem lackN_set {g : Nat → M64} {i : Nat} {x : M64} (h : lack x < lack (g i)) : ∀ {n : Nat}, i < n → lackN (fun r => if r = i then x else g r) n < lackN g n
  | 0, hi => by omega
  | n + 1, hi => by
    have same : ∀ m, m ≤ i → lackN (fun r => if r = i then x else g r) m = lackN g m := fun m => by
      induction m with
      | zero => intro _; rfl
      | succ m ih => intro hm; rw [lackN, lackN, ih (by omega), if_neg (show ¬ m = i by omega)]
    rw [lackN, lackN]
    by_cases e : n = i
    · subst e
      rw [if_pos rfl, same n (Nat.le_refl _)]; omega
    · rw [if_neg e]
      have := lackN_set h (n := n) (by omega)
      omega
end Go.Proofs.YtcdfjaaipbjpnaaDoor
