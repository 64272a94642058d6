/- Texts put together: T06I, T06J, T06G, T06L, T06K, T06M, T06H. -/
import Derived.Test.YtcdfjaaipbjpnaaDoorMB
import Derived.Test.YtcdfjaaipbjpnaaDoorSxG
import Derived.Test.YtcdfjaaipbjpnaaDoorMA
import Derived.Test.YtcdfjaaipbjpnaaDoorSxF
import Derived.Handed
import Derived.Shelf.Vars

/- Policies, plain: the words of a line, byte by byte. -/
namespace Go.Proofs.YtcdfjaaipbjpnaaDoor
open Go.Sx
set_option linter.unusedVariables false
set_option linter.unusedSimpArgs false

/-- Is a byte a blank? -/
def blkB (b : UInt8) : Bool := decide (b = 32) || decide (b = 9)
/-- The words of the rest, of which one is under way. -/
def wordsG : List UInt8 → List UInt8 → List (List UInt8)
  | cur, [] => if cur = [] then [] else [cur]
  | cur, b :: r => if blkB b then (if cur = [] then wordsG [] r else cur :: wordsG [] r) else wordsG (cur ++ [b]) r
theorem wordsG_more : ∀ (l cur r : List UInt8), (∀ b ∈ l, blkB b = false) → wordsG cur (l ++ r) = wordsG (cur ++ l) r
  | [], cur, r, _ => by simp
  | b :: l, cur, r, h => by
    rw [List.cons_append, wordsG, if_neg (by rw [h b (.head _)]; simp), wordsG_more l (cur ++ [b]) r (fun x hx => h x (.tail _ hx)), List.append_assoc]
    rfl
theorem dec_low (sz p a b c d : Nat) (ha : a < 256) : (((dec sz p a b c d).1 = 32 ∨ (dec sz p a b c d).1 = 9) ↔ (a = 32 ∨ a = 9)) ∧ ((a = 32 ∨ a = 9) → (dec sz p a b c d).2 = 1) ∧
    (¬ (a = 32 ∨ a = 9) → ∀ k, k < (dec sz p a b c d).2 → (k = 1 → 127 < b) ∧ (k = 2 → 127 < c) ∧ (k = 3 → 127 < d) ∧ k < 4) := by
  unfold dec
  repeat' split
  all_goals refine ⟨by dsimp only; omega, by dsimp only; omega, fun _ k hk => ?_⟩
  all_goals dsimp only at hk
  all_goals omega
def byt (s : ByteArray) (i : Nat) : UInt8 := s.data.toList.getD i 0
theorem byt_bt (s : ByteArray) (i : Nat) : (byt s i).toNat = bt s i := by
  have h := sb_bt s i
  unfold sb at h
  unfold byt
  omega
theorem blk_bt (s : ByteArray) (i : Nat) : blkB (byt s i) = true ↔ (bt s i = 32 ∨ bt s i = 9) := by
  rw [← byt_bt]
  unfold blkB
  simp only [Bool.or_eq_true, decide_eq_true_eq, ← UInt8.toNat_inj]
  exact Iff.rfl
theorem decode_blk (s : ByteArray) (p : Nat) : blankP (Utf8.decode s p).1 = blkB (byt s p) ∧ (blkB (byt s p) = true → (Utf8.decode s p).2 = 1) ∧
    (blkB (byt s p) = false → ∀ k, k < (Utf8.decode s p).2 → blkB (byt s (p + k)) = false) := by
  have h := dec_low s.size p (bt s p) (bt s (p + 1)) (bt s (p + 2)) (bt s (p + 3)) (bt_lt s p)
  rw [decode_eq]
  have hb := blk_bt s p
  refine ⟨?_, fun e => h.2.1 (hb.1 e), fun hn k hk => ?_⟩
  · rw [Bool.eq_iff_iff, hb, ← h.1]
    unfold blankP
    simp only [Bool.or_eq_true, decide_eq_true_eq]
    omega
  · have hn' : ¬ (bt s p = 32 ∨ bt s p = 9) := fun e => by rw [hb.2 e] at hn; cases hn
    obtain ⟨h1, h2, h3, h4⟩ := h.2.2 hn' k hk
    have key : ∀ j, 127 < bt s j → blkB (byt s j) = false := fun j hj => by
      cases e : blkB (byt s j) with
      | false => rfl
      | true => have := (blk_bt s j).1 e; omega
    match k, h4 with
    | 0, _ => exact hn
    | 1, _ => exact key _ (h1 rfl)
    | 2, _ => exact key _ (h2 rfl)
    | 3, _ => exact key _ (h3 rfl)
theorem ext_l (s : ByteArray) (a b : Nat) : (s.extract a b).data.toList = (s.data.toList.drop a).take (b - a) := by
  rw [show (s.extract a b).data = s.data.extract a b from ByteArray.data_extract, Array.toList_extract]
theorem size_l (s : ByteArray) : s.data.toList.length = s.size := Array.length_toList
theorem drop_byt {s : ByteArray} {p : Nat} (h : p < s.size) : s.data.toList.drop p = byt s p :: s.data.toList.drop (p + 1) := by
  have h' : p < s.data.toList.length := by rw [size_l]; exact h
  rw [List.drop_eq_getElem_cons h']
  unfold byt
  rw [List.getD_eq_getElem?_getD, List.getElem?_eq_getElem h']; rfl
theorem ext_more {s : ByteArray} {a p w : Nat} (h1 : a ≤ p) (h2 : p + w ≤ s.size) : (s.extract a (p + w)).data.toList = (s.extract a p).data.toList ++ (s.data.toList.drop p).take w := by
  rw [ext_l, ext_l, show p + w - a = (p - a) + w by omega, List.take_add, List.drop_drop, show a + (p - a) = p by omega]
abbrev wl (s : ByteArray) (x : Nat × Nat) : List UInt8 := (s.extract x.1 x.2).data.toList
def curW (s : ByteArray) (pos : Nat) : Option Nat → List UInt8
  | none => []
  | some a => wl s (a, pos)
theorem spans_words (s : ByteArray) : ∀ (n pos : Nat) (st : Option Nat) (acc : List (Nat × Nat)), s.size ≤ pos + n → pos ≤ s.size → (∀ a, st = some a → a < pos) →
    (Lib.closeSpans s (Lib.spansFromP blankP s n pos st acc)).map (wl s) = acc.map (wl s) ++ wordsG (curW s pos st) (s.data.toList.drop pos)
  | 0, pos, st, acc, hn, hp, hst => by
    obtain rfl : pos = s.size := by omega
    have e : s.data.toList.drop s.size = [] := List.drop_eq_nil_of_le (by rw [size_l]; exact Nat.le_refl _)
    rw [e, Lib.spansFromP.eq_def]
    cases st with
    | none => simp [Lib.closeSpans, curW, wordsG]
    | some a =>
      have ha := hst a rfl
      have hne : curW s s.size (some a) ≠ [] := fun h0 => by
        have := congrArg List.length h0
        simp only [curW, wl, ext_l, List.length_take, List.length_drop, size_l, List.length_nil] at this
        omega
      simp [Lib.closeSpans, wordsG, hne]
      rfl
  | n + 1, pos, st, acc, hn, hp, hst => by
    rw [Lib.spansFromP.eq_def]
    simp only
    by_cases hlt : pos < s.size
    · rw [if_pos hlt]
      obtain ⟨d1, d2, d3⟩ := decode_blk s pos
      have hroom := decode_room hlt
      have hpos := (decode_pos s pos).1
      generalize hw : (Utf8.decode s pos).2 = w at d2 d3 hroom hpos ⊢
      rw [d1]
      cases hb : blkB (byt s pos) with
      | true =>
        have hw1 := d2 hb
        subst hw1
        rw [if_pos rfl, drop_byt hlt, wordsG, if_pos hb]
        cases st with
        | none =>
          rw [spans_words s n (pos + 1) none acc (by omega) (by omega) (fun a ha => by cases ha)]
          simp [curW]
        | some a =>
          have ha := hst a rfl
          have hne : curW s pos (some a) ≠ [] := fun h0 => by
            have := congrArg List.length h0
            simp only [curW, wl, ext_l, List.length_take, List.length_drop, size_l, List.length_nil] at this
            omega
          rw [if_neg hne]
          simp only
          rw [spans_words s n (pos + 1) none (acc ++ [(a, pos)]) (by omega) (by omega) (fun a ha => by cases ha)]
          simp [curW]
      | false =>
        rw [if_neg (by simp)]
        have hcut : s.data.toList.drop pos = (s.data.toList.drop pos).take w ++ s.data.toList.drop (pos + w) := by
          rw [← List.drop_drop, List.take_append_drop]
        have hall : ∀ b ∈ (s.data.toList.drop pos).take w, blkB b = false := fun b hbm => by
          obtain ⟨k, hk, rfl⟩ := List.getElem_of_mem hbm
          have hk' : k < w := by simp only [List.length_take] at hk; omega
          have := d3 hb k hk'
          have e : ((s.data.toList.drop pos).take w)[k] = byt s (pos + k) := by
            have hk2 : pos + k < s.data.toList.length := by rw [size_l]; omega
            unfold byt
            rw [List.getElem_take, List.getElem_drop, List.getD_eq_getElem?_getD, List.getElem?_eq_getElem hk2]; rfl
          rw [e]; exact this
        cases st with
        | none =>
          simp only
          rw [spans_words s n (pos + w) (some pos) acc (by omega) (by omega) (fun a ha => by cases ha; omega)]
          conv => rhs; rw [hcut]
          rw [wordsG_more _ _ _ hall]
          congr 2
          show wl s (pos, pos + w) = [] ++ _
          rw [wl, ext_more (Nat.le_refl _) hroom, ext_l]
          simp
        | some a =>
          have ha := hst a rfl
          simp only
          rw [spans_words s n (pos + w) (some a) acc (by omega) (by omega) (fun a' ha' => by cases ha'; omega)]
          conv => rhs; rw [hcut]
          rw [wordsG_more _ _ _ hall]
          congr 2
          exact ext_more (by omega) hroom
    · rw [if_neg hlt]
      exact spans_words s 0 pos st acc (by omega) hp hst
/-- A line's words are those of its bytes. -/
theorem fields_words (s : ByteArray) : (fieldsL s).map (fun w => w.data.toList) = wordsG [] s.data.toList := by
  have h := spans_words s s.size 0 none [] (by omega) (Nat.zero_le _) (fun a ha => by cases ha)
  unfold fieldsL Lib.goFieldsP Lib.spansOfP
  rw [List.map_map]
  exact h
end Go.Proofs.YtcdfjaaipbjpnaaDoor

/- Policies, plain: the lines of a text, byte by byte; where the first word stands. -/
namespace Go.Proofs.YtcdfjaaipbjpnaaDoor
open Go.Sx
set_option linter.unusedVariables false
set_option linter.unusedSimpArgs false

/-- The lines of the rest, of which one is under way. -/
def linesG : List UInt8 → List UInt8 → List (List UInt8)
  | cur, [] => [cur]
  | cur, b :: r => if b = 10 then cur :: linesG [] r else linesG (cur ++ [b]) r
theorem pre10 (b : UInt8) (l : List UInt8) : List.isPrefixOf [10] (b :: l) = decide (b = 10) := by
  simp only [List.isPrefixOf, Bool.and_true]
  by_cases h : b = 10
  · subst h; decide
  · rw [decide_eq_false h]
    exact beq_false_of_ne fun e => h e.symm
theorem linesG_idx : ∀ (s cur : List UInt8), (Lib.index s [10] = -1 → linesG cur s = [cur ++ s]) ∧ ∀ i : Nat, Lib.index s [10] = i → linesG cur s = (cur ++ s.take i) :: linesG [] (s.drop (i + 1))
  | [], cur => by
    have e : Lib.index [] [10] = -1 := rfl
    exact ⟨fun _ => by simp [linesG], fun i hi => by rw [e] at hi; omega⟩
  | b :: s, cur => by
    rw [Lib.index, pre10, linesG]
    by_cases hb : b = 10
    · rw [if_pos (decide_eq_true hb), if_pos hb]
      refine ⟨fun h => (by cases h), fun i hi => ?_⟩
      obtain rfl : i = 0 := by omega
      simp
    · obtain ⟨h1, h2⟩ := linesG_idx s (cur ++ [b])
      rw [if_neg (by simpa using hb), if_neg hb]
      have hg := Lib.index_ge s [10]
      by_cases hm : Lib.index s [10] = -1
      · rw [if_pos (beq_iff_eq.2 hm)]
        exact ⟨fun _ => by rw [h1 hm]; simp, fun i hi => by omega⟩
      · rw [if_neg (fun e => hm (beq_iff_eq.1 e))]
        refine ⟨fun h => by omega, fun i hi => ?_⟩
        have hj : Lib.index s [10] = ((i - 1 : Nat) : Int) := by omega
        rw [h2 (i - 1) hj]
        obtain ⟨j, rfl⟩ : ∃ j, i = j + 1 := ⟨i - 1, by omega⟩
        simp
theorem split_lines : ∀ (k : Nat) (s : List UInt8), Lib.count s [10] = k → Lib.splitK [10] 0 k s = linesG [] s
  | 0, s, h => by
    have hg := Lib.index_ge s [10]
    by_cases hm : Lib.index s [10] = -1
    · rw [(linesG_idx s []).1 hm]; rfl
    · have := Lib.count_hit (s := s) (sub := [10]) (i := (Lib.index s [10]).toNat) (by simp) (by omega)
      omega
  | k + 1, s, h => by
    have hg := Lib.index_ge s [10]
    by_cases hm : Lib.index s [10] = -1
    · rw [Lib.count_miss hm] at h; omega
    · have hc := Lib.count_hit (s := s) (sub := [10]) (i := (Lib.index s [10]).toNat) (by simp) (by omega)
      rw [Lib.splitK, if_neg (fun e => hm (beq_iff_eq.1 e)), (linesG_idx s []).2 (Lib.index s [10]).toNat (by omega)]
      have hk : Lib.count (s.drop ((Lib.index s [10]).toNat + ([10] : List UInt8).length)) [10] = k := by
        rw [List.length_singleton] at hc ⊢
        omega
      rw [split_lines k _ hk]
      simp
theorem lines_lines (s : ByteArray) : (linesL s).map (fun w => w.data.toList) = linesG [] s.data.toList := by
  unfold linesL
  rw [Lib.splitB_data]
  exact split_lines _ _ rfl

/-! ### the first word -/
def lead : List UInt8 → Nat
  | [] => 0
  | b :: r => if blkB b then lead r + 1 else 0
theorem word_pre : ∀ (r cur : List UInt8) (w : List UInt8) (ws : List (List UInt8)), cur ≠ [] → wordsG cur r = w :: ws → w.isPrefixOf (cur ++ r) = true ∧ cur.isPrefixOf w = true
  | [], cur, w, ws, hc, h => by
    rw [wordsG, if_neg hc] at h
    cases h
    simp
  | b :: r, cur, w, ws, hc, h => by
    rw [wordsG] at h
    by_cases hb : blkB b = true
    · rw [if_pos hb, if_neg hc] at h
      cases h
      simp
    · rw [if_neg hb] at h
      obtain ⟨h1, h2⟩ := word_pre r (cur ++ [b]) w ws (by simp) h
      refine ⟨by simpa using h1, ?_⟩
      rw [List.isPrefixOf_iff_prefix] at h2 ⊢
      exact (List.prefix_append _ _).trans h2
theorem words_ne : ∀ (r cur : List UInt8) (w : List UInt8), (cur ≠ [] → ∀ b, cur.head? = some b → blkB b = false) → w ∈ wordsG cur r → ∃ b t, w = b :: t ∧ blkB b = false
  | [], cur, w, hc, h => by
    rw [wordsG] at h
    by_cases h0 : cur = []
    · rw [if_pos h0] at h; cases h
    · rw [if_neg h0, List.mem_singleton] at h
      subst h
      cases w with
      | nil => exact absurd rfl h0
      | cons b t => exact ⟨b, t, rfl, hc h0 b rfl⟩
  | b :: r, cur, w, hc, h => by
    rw [wordsG] at h
    by_cases hb : blkB b = true
    · rw [if_pos hb] at h
      by_cases h0 : cur = []
      · rw [if_pos h0] at h
        exact words_ne r [] w (fun h => absurd rfl h) h
      · rw [if_neg h0] at h
        rcases List.mem_cons.1 h with rfl | h
        · cases w with
          | nil => exact absurd rfl h0
          | cons b' t => exact ⟨b', t, rfl, hc h0 b' rfl⟩
        · exact words_ne r [] w (fun h => absurd rfl h) h
    · rw [if_neg hb] at h
      refine words_ne r (cur ++ [b]) w (fun _ b' hb' => ?_) h
      cases cur with
      | nil => simp at hb'; subst hb'; simpa using hb
      | cons x t => exact hc (by simp) b' (by simpa using hb')
theorem index_first : ∀ (l : List UInt8) (w : List UInt8) (ws : List (List UInt8)), wordsG [] l = w :: ws → Lib.index l w = (lead l : Int)
  | [], w, ws, h => by simp [wordsG] at h
  | b :: r, w, ws, h => by
    obtain ⟨c, t, hw, hc⟩ := words_ne (b :: r) [] w (fun h => absurd rfl h) (by rw [h]; exact .head _)
    rw [wordsG] at h
    by_cases hb : blkB b = true
    · rw [if_pos hb, if_pos rfl] at h
      have ih := index_first r w ws h
      have hne : w.isPrefixOf (b :: r) = false := by
        rw [hw]
        simp only [List.isPrefixOf, Bool.and_eq_false_iff]
        left
        exact beq_false_of_ne fun e => by rw [e, hb] at hc; cases hc
      rw [Lib.index, if_neg (by rw [hne]; simp), ih, if_neg (by intro e; have := beq_iff_eq.1 e; omega), lead, if_pos hb]
      omega
    · rw [if_neg hb] at h
      obtain ⟨h1, _⟩ := word_pre r ([] ++ [b]) w ws (by simp) h
      rw [Lib.index, if_pos (by simpa using h1), lead, if_neg hb]
      rfl
end Go.Proofs.YtcdfjaaipbjpnaaDoor

/- Policies: the answer's Copy, Level and Channel; the examples; the law PolicyFinds. -/
namespace Go.Proofs.YtcdfjaaipbjpnaaDoor
open Go.Sx
set_option linter.unusedVariables false
set_option linter.unusedSimpArgs false
set_option maxRecDepth 100000

structure PolSz (p : Pol) : Prop where
  lev : p.lev.length * 16 ≤ 140737488355328
  up : p.up.length * 8 ≤ 140737488355328
  ins : p.ins.length * 24 ≤ 140737488355328
  outs : p.outs.length * 24 ≤ 140737488355328
theorem sl_app0 {z z' n : Nat} {us : List D} {f : Nat → List D} (hz : z = z') (h : ∀ i, app 0 (tab (List.replicate 0 us)) f i = f i) : D.sl z (0 + n) (app 0 (tab (List.replicate 0 us)) f) = .sl z' n f := by
  subst hz
  rw [Nat.zero_add, show app 0 (tab (List.replicate 0 us)) f = f from funext h]
theorem app0_1 {u : D} (d : Nat → D) (i : Nat) : app 0 (tab (List.replicate 0 [u])) (fun i => [d i]) i = [d i] := by
  show (if i < 0 then [] else [d (i - 0)]) = _
  rw [if_neg (by omega)]; rfl
theorem app0_2 {u v : D} (d e : Nat → D) (i : Nat) : app 0 (tab (List.replicate 0 [u, v])) (fun i => [d i, e i]) i = [d i, e i] := by
  show (if i < 0 then [] else [d (i - 0), e (i - 0)]) = _
  rw [if_neg (by omega)]; rfl
theorem copy6_spec (p : Pol) (h : PolSz p) : Pure PG 13 [vPol p] (vPol p) [] := by
  obtain ⟨h1, h2, h3, h4⟩ := h
  refine Proc.mk (cfg 24) tysOK [] Tryd.func13 rfl (by kernel_rfl) rfl rfl rfl ?_
  intro C x
  refine Go.atExit [2, 3, 4, 5] ?_
  refine x.exit rfl (by simp only [AllP, big]; omega) ?_
  exact ⟨.inr rfl, ⟨veq0_d (sl_app0 rfl (app0_1 _)), veq0_d (sl_app0 rfl (app0_1 _)), veq0_d (sl_app0 rfl (app0_2 _ _)), veq0_d (sl_app0 rfl (app0_2 _ _)), rfl, trivial⟩, trivial, rfl⟩
theorem lev6_spec (l : List ByteArray) (s : ByteArray) (hl : inI64 (l.length : Int)) : Pure PG 17 [.agg [vSs l, .dead, .dead, .dead, .dead], vs s] (vi (idxS l s)) [] := by
  refine Proc.mk (cfg 21) tysOK [] Tryd.func17 rfl (by kernel_rfl) rfl rfl rfl ?_
  intro C x
  unfold inI64 at hl
  refine x.loop (α := { i : Nat // i ≤ l.length ∧ idxF (fun i => decide ((l.getD i .empty).data.toList = s.data.toList)) (l.length - i) i = idxS l s }) (fun y => ⟨[(1, vs s), (2, .ptr 0 0), (5, vi (y.1 : Int))], [(0, .box [vSs l, .dead, .dead, .dead, .dead])], 1⟩) (fun y => l.length - y.1) ⟨0, by omega, rfl⟩ rfl trivial ?_ (fun y => ?_)
  · exact ⟨⟨rfl, ⟨rfl, rfl⟩, rfl, trivial⟩, ⟨⟨veq0_d rfl, rfl, rfl, rfl, rfl, trivial⟩, trivial⟩, rfl⟩
  obtain ⟨i, hi, hsame⟩ := y
  change Go C _ ⟨[(1, vs s), (2, .ptr 0 0), (5, vi (i : Int))], [(0, .box [vSs l, .dead, .dead, .dead, .dead])], 1⟩ _
  refine x.cond rfl trivial (fun h1 => ?_) (fun h1 => ?_)
  · have h1 : i < l.length := by have := of_decide_eq_true h1; omega
    rw [show l.length - i = (l.length - (i + 1)) + 1 by omega, idxF] at hsame
    refine x.cond rfl (by simp only [AllP]; omega) (fun h2 => ?_) (fun h2 => ?_)
    · have h2 : decide ((l.getD i .empty).data.toList = s.data.toList) = true := h2
      rw [if_pos h2] at hsame
      refine x.exit rfl trivial ⟨.inr rfl, ?_, trivial, rfl⟩
      show VEq0 (vi (i : Int)) (vi (idxS l s))
      rw [hsame]; exact rfl
    · have h2 : decide ((l.getD i .empty).data.toList = s.data.toList) = false := h2
      rw [if_neg (by rw [h2]; simp)] at hsame
      refine x.back rfl ?_ ⟨⟨i + 1, by omega, hsame⟩, by show l.length - (i + 1) < l.length - i; omega, ⟨rfl, ⟨rfl, rfl⟩, (show VEq0 (vi ((i : Int) + 1)) (vi ((i + 1 : Nat) : Int)) by rw [Int.natCast_add]; rfl), trivial⟩, ⟨⟨veq0_d rfl, rfl, rfl, rfl, rfl, trivial⟩, trivial⟩, rfl⟩
      simp only [AllP, inI64]; omega
  · have h1 : i = l.length := by have := of_decide_eq_false h1; omega
    refine x.exit rfl trivial ⟨.inr rfl, ?_, trivial, rfl⟩
    show VEq0 (vi (-1)) (vi (idxS l s))
    rw [← hsame, show l.length - i = 0 by omega]; exact rfl
theorem chn6_spec (l : List Chan) (s : ByteArray) (hl : inI64 (l.length : Int)) : Pure PG 18 [vChs l, vs s] (vi (idxC l s)) [] := by
  refine Proc.mk (cfg 20) tysOK [] Tryd.func18 rfl (by kernel_rfl) rfl rfl rfl ?_
  intro C x
  unfold inI64 at hl
  refine x.loop (α := { i : Nat // i ≤ l.length ∧ idxF (fun i => decide ((l.getD i chan0).1.data.toList = s.data.toList)) (l.length - i) i = idxC l s }) (fun y => ⟨[(0, vChs l), (1, vs s), (5, vi (y.1 : Int))], [], 0⟩) (fun y => l.length - y.1) ⟨0, by omega, rfl⟩ rfl trivial ?_ (fun y => ?_)
  · exact ⟨⟨veq_d rfl, rfl, rfl, trivial⟩, trivial, rfl⟩
  obtain ⟨i, hi, hsame⟩ := y
  change Go C _ ⟨[(0, vChs l), (1, vs s), (5, vi (i : Int))], [], 0⟩ _
  refine x.cond rfl trivial (fun h1 => ?_) (fun h1 => ?_)
  · have h1 : i < l.length := by have := of_decide_eq_true h1; omega
    rw [show l.length - i = (l.length - (i + 1)) + 1 by omega, idxF] at hsame
    refine x.cond rfl (by simp only [AllP]; omega) (fun h2 => ?_) (fun h2 => ?_)
    · have h2 : decide ((l.getD i chan0).1.data.toList = s.data.toList) = true := h2
      rw [if_pos h2] at hsame
      refine x.exit rfl trivial ⟨.inr rfl, ?_, trivial, rfl⟩
      show VEq0 (vi (i : Int)) (vi (idxC l s))
      rw [hsame]; exact rfl
    · have h2 : decide ((l.getD i chan0).1.data.toList = s.data.toList) = false := h2
      rw [if_neg (by rw [h2]; simp)] at hsame
      refine x.back rfl ?_ ⟨⟨i + 1, by omega, hsame⟩, by show l.length - (i + 1) < l.length - i; omega, ⟨veq_d rfl, rfl, (show VEq0 (vi ((i : Int) + 1)) (vi ((i + 1 : Nat) : Int)) by rw [Int.natCast_add]; rfl), trivial⟩, trivial, rfl⟩
      simp only [AllP, inI64]; omega
  · have h1 : i = l.length := by have := of_decide_eq_false h1; omega
    refine x.exit rfl trivial ⟨.inr rfl, ?_, trivial, rfl⟩
    show VEq0 (vi (-1)) (vi (idxC l s))
    rw [← hsame, show l.length - i = 0 by omega]; exact rfl
theorem found6_spec (k : Int) : Pure PG 16 [vi (if 0 > k then 0 else k), vb (decide (0 ≤ k)), vi k] (vb true) [] := by
  refine Proc.mk (cfg 27) tysOK [] Tryd.func16 rfl (by kernel_rfl) rfl rfl rfl ?_
  intro C x
  refine x.exit rfl trivial ⟨.inr rfl, ?_, trivial, rfl⟩
  refine (show VEq0 (vb _) (vb true) from ?_)
  by_cases h : 0 ≤ k
  · have h' : ¬ 0 > k := by omega
    (simp [h, h', VEq0]; exact rfl)
  · have h' : 0 > k := by omega
    (simp [h, h', VEq0]; exact rfl)

def exP : ByteArray := ⟨#[108, 101, 118, 101, 108, 32, 108, 111, 119, 10, 108, 101, 118, 101, 108, 32, 104, 105, 103, 104, 10, 102, 108, 111, 119, 32, 108, 111, 119, 32, 104, 105, 103, 104, 10, 105, 110, 112, 117, 116, 32, 107, 101, 121, 32, 104, 105, 103, 104, 10, 111, 117, 116, 112, 117, 116, 32, 110, 101, 116, 32, 108, 111, 119, 10, 100, 101, 112, 116, 104, 32, 56]⟩
def exQ : ByteArray := ⟨#[108, 101, 118, 101, 108, 32, 108, 111, 119, 10, 32, 105, 110, 112, 117, 116, 32, 107, 101, 121, 32, 104, 105, 103, 104]⟩
theorem exP_e : (parseP exP).2.2 = 0 ∧ (parseP exP).1.lev.length = 2 ∧ (parseP exP).1.ins.length = 1 ∧ ((parseP exP).1.ins.getD 0 chan0).2 = 1 ∧ (parseP exP).1.depth = 8 := by decide +kernel
theorem exQ_e : (parseP exQ).2.2 = 10 ∧ (parseP exQ).2.1 = 11 := by decide +kernel
set_option maxHeartbeats 2000000 in
theorem awake6_spec : Pure PG 11 [] (vb true) [] := by
  refine Proc.mk (cfg 52) tysOK [] Tryd.func11 rfl (by kernel_rfl) rfl rfl rfl ?_
  intro C x
  have s1 : exP.size ≤ 9223372036854775807 := by show (72 : Nat) ≤ _; decide
  have s2 : exQ.size ≤ 9223372036854775807 := by show (25 : Nat) ≤ _; decide
  refine x.pure rfl trivial rfl (parse6_spec exP s1) ⟨rfl, trivial⟩ ?_
  refine x.pure rfl trivial rfl (parse6_spec exQ s2) ⟨rfl, trivial⟩ ?_
  obtain ⟨a1, a2, a3, a4, a5⟩ := exP_e
  obtain ⟨b1, b2⟩ := exQ_e
  obtain ⟨PA, hA⟩ : ∃ P, parseP exP = P := ⟨_, rfl⟩
  obtain ⟨PB, hB⟩ : ∃ P, parseP exQ = P := ⟨_, rfl⟩
  rw [hA] at a1 a2 a3 a4 a5 ⊢
  rw [hB] at b1 b2 ⊢
  refine x.exit rfl ?_ ?_
  · simp only [AllP, Int.toNat_zero, a2, a3]
    exact fun _ => by omega
  refine ⟨.inr rfl, (show VEq0 (vb _) (vb true) from ?_), trivial, rfl⟩
  rw [Int.toNat_zero, a1, a2, a3, a4, a5, b1, b2]
  exact rfl
/-! ### the law -/
set_option maxHeartbeats 2000000 in
theorem finds_spec (p : Pol) (h : PolSz p) (s : ByteArray) : Pure PG 5 [vPol p, vs s] (vb true) [] := by
  have hl : inI64 (p.lev.length : Int) := by have := h.lev; unfold inI64; omega
  have hi : inI64 (p.ins.length : Int) := by have := h.ins; unfold inI64; omega
  have ho : inI64 (p.outs.length : Int) := by have := h.outs; unfold inI64; omega
  refine Proc.mk (cfg 59) tysOK [] Tryd.func5 rfl (by kernel_rfl) rfl rfl rfl ?_
  intro C x
  refine x.pure rfl trivial rfl (copy6_spec p h) ⟨⟨veq0_d rfl, veq0_d rfl, veq0_d rfl, veq0_d rfl, rfl, trivial⟩, trivial⟩ ?_
  refine x.pure rfl trivial rfl (level_spec p.lev s hl) ⟨⟨veq0_d rfl, rfl, rfl, rfl, rfl, trivial⟩, rfl, trivial⟩ ?_
  refine x.pure rfl trivial rfl (copy6_spec p h) ⟨⟨veq0_d rfl, veq0_d rfl, veq0_d rfl, veq0_d rfl, rfl, trivial⟩, trivial⟩ ?_
  refine x.pure rfl trivial rfl (input_spec p.ins s hi) ⟨⟨rfl, rfl, veq0_d rfl, rfl, rfl, trivial⟩, rfl, trivial⟩ ?_
  refine x.pure rfl trivial rfl (copy6_spec p h) ⟨⟨veq0_d rfl, veq0_d rfl, veq0_d rfl, veq0_d rfl, rfl, trivial⟩, trivial⟩ ?_
  refine x.pure rfl trivial rfl (output_spec p.outs s ho) ⟨⟨rfl, rfl, rfl, veq0_d rfl, rfl, trivial⟩, rfl, trivial⟩ ?_
  refine x.pure rfl trivial rfl (lev6_spec p.lev s hl) ⟨⟨veq0_d rfl, rfl, rfl, rfl, rfl, trivial⟩, rfl, trivial⟩ ?_
  refine x.pure rfl trivial rfl (found6_spec (idxS p.lev s)) ⟨rfl, rfl, rfl, trivial⟩ ?_
  refine x.pureG rfl trivial rfl (fun _ => chn6_spec p.ins s hi) rfl ⟨veq_d rfl, rfl, trivial⟩ ?_
  refine x.pureG rfl trivial rfl (fun _ => found6_spec (idxC p.ins s)) rfl ⟨rfl, rfl, rfl, trivial⟩ ?_
  refine x.pureG rfl trivial rfl (fun _ => chn6_spec p.outs s ho) rfl ⟨veq_d rfl, rfl, trivial⟩ ?_
  refine x.pureG rfl trivial rfl (fun _ => found6_spec (idxC p.outs s)) rfl ⟨rfl, rfl, rfl, trivial⟩ ?_
  refine x.pureG rfl trivial rfl (fun _ => awake6_spec) rfl trivial ?_
  exact x.exit rfl trivial ⟨.inr rfl, rfl, trivial, rfl⟩
end Go.Proofs.YtcdfjaaipbjpnaaDoor

/- Policies, plain: lines that say nothing, and blanks round the words, change nothing. -/
namespace Go.Proofs.YtcdfjaaipbjpnaaDoor
open Go.Sx
set_option linter.unusedVariables false
set_option linter.unusedSimpArgs false

/-! ### which bytes are text -/
theorem dec_cut {sz sz' p a b c d b' c' d' : Nat} (hb : p + 1 < sz → b' = b) (hc : p + 2 < sz → c' = c) (hd : p + 3 < sz → d' = d) (hs : sz ≤ sz') (eb : p + 1 = sz → b' < 128) (ec : p + 2 = sz → c' < 128) (ed : p + 3 = sz → d' < 128) (hp : p < sz) : dec sz' p a b' c' d' = dec sz p a b c d := by
  unfold dec
  by_cases h1 : a < 128
  · rw [if_pos h1, if_pos h1]
  rw [if_neg h1, if_neg h1]
  by_cases h2 : a / 32 = 6 ∧ p + 1 < sz ∧ b / 64 = 2
  · obtain rfl := hb h2.2.1
    rw [if_pos h2, if_pos (by omega)]
  rw [if_neg h2, if_neg (by
    rintro ⟨e1, e2, e3⟩
    by_cases hh : p + 1 < sz
    · have := hb hh; subst this; exact h2 ⟨e1, hh, e3⟩
    · have := eb (by omega); omega)]
  by_cases h3 : a / 16 = 14 ∧ p + 1 < sz ∧ b / 64 = 2 ∧ p + 2 < sz ∧ c / 64 = 2
  · obtain rfl := hb h3.2.1
    obtain rfl := hc h3.2.2.2.1
    rw [if_pos h3, if_pos (by omega)]
  rw [if_neg h3, if_neg (by
    rintro ⟨e1, e2, e3, e4, e5⟩
    by_cases hh : p + 1 < sz
    · have := hb hh; subst this
      by_cases hh2 : p + 2 < sz
      · have := hc hh2; subst this; exact h3 ⟨e1, hh, e3, hh2, e5⟩
      · have := ec (by omega); omega
    · have := eb (by omega); omega)]
  by_cases h4 : a / 8 = 30 ∧ p + 1 < sz ∧ b / 64 = 2 ∧ p + 2 < sz ∧ c / 64 = 2 ∧ p + 3 < sz ∧ d / 64 = 2
  · obtain rfl := hb h4.2.1
    obtain rfl := hc h4.2.2.2.1
    obtain rfl := hd h4.2.2.2.2.2.1
    rw [if_pos h4, if_pos (by omega)]
  rw [if_neg h4, if_neg (by
    rintro ⟨e1, e2, e3, e4, e5, e6, e7⟩
    by_cases hh : p + 1 < sz
    · have := hb hh; subst this
      by_cases hh2 : p + 2 < sz
      · have := hc hh2; subst this
        by_cases hh3 : p + 3 < sz
        · have := hd hh3; subst this; exact h4 ⟨e1, hh, e3, hh2, e5, hh3, e7⟩
        · have := ed (by omega); omega
      · have := ec (by omega); omega
    · have := eb (by omega); omega)]
def lowS (b : ByteArray) : Prop := bt b 0 < 128
theorem decode_low {a b : ByteArray} (hb : lowS b) {p : Nat} (hp : p < a.size) : Utf8.decode (a ++ b) p = Utf8.decode a p := by
  rw [decode_eq, decode_eq, bt_left hp]
  have key : ∀ k, p + k = a.size → bt (a ++ b) (p + k) < 128 := fun k hk => by
    rw [show p + k = a.size + 0 by omega, bt_right]; exact hb
  exact dec_cut (fun hh => bt_left hh) (fun hh => bt_left hh) (fun hh => bt_left hh) (by rw [app_size]; omega) (key 1) (key 2) (key 3) hp
theorem dl_low (a b : ByteArray) (hb : lowS b) : ∀ (n p : Nat), p ≤ a.size → a.size ≤ p + n → dl (a ++ b) (n + b.size) p = dl a n p ++ (dl b b.size 0).map (shR a.size)
  | 0, p, h1, h2 => by
    obtain rfl : p = a.size := by omega
    have := dl_right a b b.size 0
    rw [Nat.add_zero] at this
    rw [Nat.zero_add, this]
    rfl
  | n + 1, p, h1, h2 => by
    by_cases hp : p < a.size
    · rw [show dl a (n + 1) p = (p, (Utf8.decode a p).1, (Utf8.decode a p).2) :: dl a n (p + (Utf8.decode a p).2) by rw [dl, if_pos hp]]
      have hr := decode_room hp
      have := decode_pos a p
      rw [show n + 1 + b.size = (n + b.size) + 1 by omega, dl, if_pos (by rw [app_size]; omega), decode_low hb hp, dl_low a b hb n _ hr (by omega)]
      rfl
    · obtain rfl : p = a.size := by omega
      have h4 : dl (a ++ b) (n + 1 + b.size) a.size = _ := dl_right a b (n + 1 + b.size) 0
      rw [h4, dl_end (s := a) hp, dl_fuel b (n + 1 + b.size) b.size 0 (by omega) (by omega)]
      rfl
/-- Are bytes text? -/
def okB (l : List UInt8) : Bool := (rl ⟨l.toArray⟩).all okR
theorem ba_l (s : ByteArray) : (⟨s.data.toList.toArray⟩ : ByteArray) = s := by cases s; simp
theorem ok_bad (s : ByteArray) : 0 ≤ badV s s.size 0 ↔ okB s.data.toList = false := by
  unfold okB
  rw [ba_l]
  have := (bad_rl s).2
  cases h : (rl s).all okR with
  | true => rw [h] at this; have := this.2 rfl; simp; omega
  | false => rw [h] at this; simp at this; simp; omega
theorem okB_app (a r : List UInt8) (c : UInt8) (hc : c.toNat < 128) : okB (a ++ c :: r) = (okB a && okB r) := by
  have e1 : (⟨(a ++ c :: r).toArray⟩ : ByteArray) = ⟨a.toArray⟩ ++ ⟨(c :: r).toArray⟩ := by
    apply ByteArray.ext; simp
  have e2 : (⟨(c :: r).toArray⟩ : ByteArray) = ⟨#[c]⟩ ++ ⟨r.toArray⟩ := by
    apply ByteArray.ext; simp
  have hlow : lowS ⟨(c :: r).toArray⟩ := by
    unfold lowS
    rw [← byt_bt]
    exact hc
  have h1 : okB (a ++ c :: r) = (okB a && okB (c :: r)) := by
    unfold okB
    rw [e1]
    unfold rl
    rw [dl_fuel _ _ ((⟨a.toArray⟩ : ByteArray).size + (⟨(c :: r).toArray⟩ : ByteArray).size) 0 (by omega) (by rw [app_size]; omega), dl_low _ _ hlow _ 0 (by omega) (by omega), List.all_append, ok_shift]
  have h0 : rl ⟨#[c]⟩ = [(0, c.toNat, 1)] := by
    have hb : bt ⟨#[c]⟩ 0 = c.toNat := by rw [← byt_bt]; rfl
    have hd : Utf8.decode ⟨#[c]⟩ 0 = (c.toNat, 1) := by rw [decode_eq, hb, dec, if_pos hc]
    show dl ⟨#[c]⟩ 1 0 = _
    rw [dl, if_pos (by show 0 < 1; omega), hd]
    rfl
  have hk : ((rl ⟨#[c]⟩).all okR) = true := by
    rw [h0]
    simp only [List.all_cons, List.all_nil, okR, Bool.and_true]
    have : ¬ c.toNat = 65533 := by omega
    simp [this]
  have h2 : okB (c :: r) = okB r := by
    unfold okB
    rw [e2, rl_app _ hk, List.all_append, hk, Bool.true_and, ok_shift]
  rw [h1, h2]
theorem okB_cons (r : List UInt8) (c : UInt8) (hc : c.toNat < 128) : okB (c :: r) = okB r := by
  have := okB_app [] r c hc
  rw [List.nil_append] at this
  rw [this, show okB [] = true from rfl, Bool.true_and]

/-! ### the text with blanks -/
def expB (b : UInt8) : List UInt8 := if b = 10 then [10, 32, 32] else if b = 32 then [32, 9] else [b]
def expL : List UInt8 → List UInt8
  | [] => []
  | b :: r => expB b ++ expL r
theorem ok_exp : ∀ (s a : List UInt8), okB (a ++ expL s) = okB (a ++ s)
  | [], a => rfl
  | b :: s, a => by
    rw [expL, expB]
    by_cases h1 : b = 10
    · subst h1
      rw [if_pos rfl, List.cons_append, okB_app _ _ _ (by decide), okB_app _ _ _ (by decide), List.cons_append, okB_cons _ _ (by decide), List.cons_append, okB_cons _ _ (by decide)]
      have := ok_exp s []
      rw [List.nil_append, List.nil_append] at this
      rw [List.nil_append, this]
    · rw [if_neg h1]
      by_cases h2 : b = 32
      · subst h2
        rw [if_pos rfl, List.cons_append, okB_app _ _ _ (by decide), okB_app _ _ _ (by decide), List.cons_append, okB_cons _ _ (by decide)]
        have := ok_exp s []
        rw [List.nil_append, List.nil_append] at this
        rw [List.nil_append, this]
      · rw [if_neg h2]
        have := ok_exp s (a ++ [b])
        simpa using this
theorem linesG_cut : ∀ (l cur r : List UInt8), (∀ b ∈ l, b ≠ 10) → linesG cur (l ++ 10 :: r) = (cur ++ l) :: linesG [] r
  | [], cur, r, _ => by rw [List.nil_append, linesG, if_pos rfl, List.append_nil]
  | b :: l, cur, r, h => by
    rw [List.cons_append, linesG, if_neg (h b (.head _)), linesG_cut l _ r (fun x hx => h x (.tail _ hx)), List.append_assoc]; rfl
theorem linesG_end : ∀ (l cur : List UInt8), (∀ b ∈ l, b ≠ 10) → linesG cur l = [cur ++ l]
  | [], cur, _ => by rw [linesG, List.append_nil]
  | b :: l, cur, h => by
    rw [linesG, if_neg (h b (.head _)), linesG_end l _ (fun x hx => h x (.tail _ hx)), List.append_assoc]; rfl
theorem wordsG_two (r : List UInt8) : ∀ (c cur : List UInt8), wordsG cur (c ++ 32 :: 9 :: r) = wordsG cur (c ++ 32 :: r)
  | [], cur => by
    have e : wordsG [] (9 :: r) = wordsG [] r := by rw [wordsG, if_pos (by decide), if_pos rfl]
    show (if blkB 32 = true then (if cur = [] then wordsG [] (9 :: r) else cur :: wordsG [] (9 :: r)) else wordsG (cur ++ [32]) (9 :: r)) = (if blkB 32 = true then (if cur = [] then wordsG [] r else cur :: wordsG [] r) else wordsG (cur ++ [32]) r)
    have hb : blkB 32 = true := by decide
    rw [e, if_pos hb, if_pos hb]
  | b :: c, cur => by
    rw [List.cons_append, List.cons_append, wordsG, wordsG, wordsG_two r c, wordsG_two r c]
theorem lines_exp : ∀ (s c c' : List UInt8), (∀ r, wordsG [] (c ++ r) = wordsG [] (c' ++ r)) → (linesG c (expL s)).map (wordsG []) = (linesG c' s).map (wordsG [])
  | [], c, c', h => by
    have := h []
    rw [List.append_nil, List.append_nil] at this
    simp [expL, linesG, this]
  | b :: s, c, c', h => by
    have e0 := h []
    rw [List.append_nil, List.append_nil] at e0
    rw [expL, expB, linesG]
    by_cases h1 : b = 10
    · rw [if_pos h1, if_pos h1, List.cons_append, linesG, if_pos rfl, List.map_cons, List.map_cons, e0]
      congr 1
      rw [List.cons_append, linesG, if_neg (by decide), List.cons_append, linesG, if_neg (by decide), List.nil_append]
      exact lines_exp s _ _ fun r => by
        show wordsG [] (32 :: 32 :: r) = wordsG [] r
        rw [wordsG, if_pos (by decide), if_pos rfl, wordsG, if_pos (by decide), if_pos rfl]
    · rw [if_neg h1, if_neg h1]
      by_cases h2 : b = 32
      · subst h2
        rw [if_pos rfl, List.cons_append, linesG, if_neg (by decide), List.cons_append, linesG, if_neg (by decide), List.nil_append]
        exact lines_exp s _ _ fun r => by
          rw [List.append_assoc, List.append_assoc, List.append_assoc]
          show wordsG [] (c ++ 32 :: 9 :: r) = wordsG [] (c' ++ 32 :: r)
          rw [h, wordsG_two]
      · rw [if_neg h2, List.cons_append, linesG, if_neg h1, List.nil_append]
        exact lines_exp s _ _ fun r => by rw [List.append_assoc, List.append_assoc]; exact h _

/-! ### lines that say the same -/
theorem map_l_inj : ∀ {a b : List ByteArray}, a.map (fun w => w.data.toList) = b.map (fun w => w.data.toList) → a = b
  | [], [], _ => rfl
  | [], _ :: _, h => by cases h
  | _ :: _, [], h => by cases h
  | x :: a, y :: b, h => by
    simp only [List.map_cons, List.cons.injEq] at h
    rw [map_l_inj h.2, show x = y by rw [ba_eq x, ba_eq y, h.1]]
theorem fields_eq {a b : ByteArray} (h : wordsG [] a.data.toList = wordsG [] b.data.toList) : fieldsL a = fieldsL b :=
  map_l_inj (by rw [fields_words, fields_words, h])
theorem fields_of {a : ByteArray} {ws : List (List UInt8)} (h : wordsG [] a.data.toList = ws) : (fieldsL a).map (fun w => w.data.toList) = ws := by
  rw [fields_words, h]
def errL : (Int × Int) ⊕ Rdr → Int ⊕ Rdr
  | .inl q => .inl q.2
  | .inr r => .inr r
theorem linesF_alike : ∀ {ls ls' : List ByteArray} {at_ at' : Int} {r : Rdr}, ls.map fieldsL = ls'.map fieldsL → errL (linesF ls at_ r) = errL (linesF ls' at' r)
  | [], [], _, _, _, _ => rfl
  | [], _ :: _, _, _, _, h => by cases h
  | _ :: _, [], _, _, _, h => by cases h
  | l :: ls, l' :: ls', at_, at', r, h => by
    simp only [List.map_cons, List.cons.injEq] at h
    rw [linesF, linesF, h.1]
    split
    · split
      · rfl
      · exact linesF_alike h.2
    · exact linesF_alike h.2
theorem parse_lines {s s' : ByteArray} (h1 : s.size ≤ 65536) (h2 : s'.size ≤ 65536) (hb : okB s.data.toList = okB s'.data.toList) (hl : errL (linesF (linesL s) 0 rdr0) = errL (linesF (linesL s') 0 rdr0)) :
    (parseP s).2.2 = (parseP s').2.2 ∧ (parseP s).1 = (parseP s').1 := by
  have e : (0 ≤ badV s s.size 0) ↔ (0 ≤ badV s' s'.size 0) := by rw [ok_bad, ok_bad, hb]
  unfold parseP
  rw [if_neg (show ¬ 65536 < s.size by omega), if_neg (show ¬ 65536 < s'.size by omega)]
  by_cases hbad : 0 ≤ badV s s.size 0
  · rw [if_pos hbad, if_pos (e.1 hbad)]
    exact ⟨rfl, rfl⟩
  rw [if_neg hbad, if_neg (fun h => hbad (e.2 h))]
  cases ha : linesF (linesL s) 0 rdr0 with
  | inl q =>
    cases hb' : linesF (linesL s') 0 rdr0 with
    | inl q' =>
      rw [ha, hb'] at hl
      simp only [errL, Sum.inl.injEq] at hl
      exact ⟨hl, rfl⟩
    | inr r' => rw [ha, hb'] at hl; cases hl
  | inr r =>
    cases hb' : linesF (linesL s') 0 rdr0 with
    | inl q' => rw [ha, hb'] at hl; cases hl
    | inr r' =>
      rw [ha, hb'] at hl
      simp only [errL, Sum.inr.injEq] at hl
      subst hl
      show (endR s.size r).2.2 = (endR s'.size r).2.2 ∧ (endR s.size r).1 = (endR s'.size r).1
      unfold endR
      split
      · exact ⟨rfl, rfl⟩
      · split <;> exact ⟨rfl, rfl⟩
theorem says_no {l : ByteArray} (h : (∃ r ws, wordsG [] l.data.toList = (35 :: r) :: ws) ∨ wordsG [] l.data.toList = []) : says (fieldsL l) = false := by
  rcases h with ⟨r, ws, h⟩ | h
  · have hf := fields_of h
    cases hw : fieldsL l with
    | nil => rw [hw] at hf; cases hf
    | cons w t =>
      rw [hw] at hf
      simp only [List.map_cons, List.cons.injEq] at hf
      unfold says
      have : sb (w_ (w :: t) 0) 0 = 35 := by
        show (((w.data.toList.getD 0 0).toNat : Nat) : Int) = 35
        rw [hf.1]; rfl
      rw [this]
      simp
  · have hf := fields_of h
    rw [List.map_eq_nil_iff] at hf
    rw [hf]; rfl
theorem linesF_skip {l : ByteArray} {ls : List ByteArray} {at_ : Int} {r : Rdr} (h : says (fieldsL l) = false) : linesF (l :: ls) at_ r = linesF ls (at_ + (l.size + 1)) r := by
  rw [linesF, if_neg (by rw [h]; simp)]
theorem note_words (note : List UInt8) : ∃ r ws, wordsG [] (35 :: 32 :: note) = (35 :: r) :: ws := ⟨[], wordsG [] note, by
  rw [wordsG, if_neg (by decide), wordsG, if_pos (by decide), if_neg (by simp)]; rfl⟩
/-- Lines that say nothing, and blanks round the words, change nothing. -/
theorem wide_same {s t w : ByteArray} {note : List UInt8} (hs : s.size ≤ 65536) (hw : w.size ≤ 65536) (ht : t.size ≤ 65536) (hn : ∀ b ∈ note, b ≠ 10) (et : t.data.toList = 35 :: 32 :: note) (ew : w.data.toList = (35 :: 32 :: note) ++ 10 :: 9 :: 10 :: expL s.data.toList) :
    ((parseP t).2.2 = 5 → (parseP w).2.2 = 5) ∧ (¬ (parseP t).2.2 = 5 → (parseP s).2.2 = (parseP w).2.2 ∧ (parseP s).1 = (parseP w).1) := by
  have hok : okB w.data.toList = (okB t.data.toList && okB s.data.toList) := by
    rw [ew, et, okB_app _ _ 10 (by decide), okB_cons (10 :: expL s.data.toList) 9 (by decide), okB_cons (expL s.data.toList) 10 (by decide)]
    have := ok_exp s.data.toList []
    rw [List.nil_append, List.nil_append] at this
    rw [this]
  have hl : ∀ b ∈ (35 : UInt8) :: 32 :: note, b ≠ 10 := fun b hb => by
    rcases List.mem_cons.1 hb with rfl | hb
    · decide
    · rcases List.mem_cons.1 hb with rfl | hb
      · decide
      · exact hn b hb
  -- what the note is
  have htl : ∃ l, linesL t = [l] ∧ l.data.toList = 35 :: 32 :: note := by
    have h := lines_lines t
    rw [et, linesG_end _ _ hl, List.nil_append] at h
    cases hx : linesL t with
    | nil => rw [hx] at h; cases h
    | cons l r =>
      rw [hx] at h
      simp only [List.map_cons, List.cons.injEq, List.map_eq_nil_iff] at h
      exact ⟨l, by rw [h.2], h.1⟩
  have ht5 : (parseP t).2.2 = 5 ↔ okB t.data.toList = false := by
    rw [← ok_bad]
    unfold parseP
    rw [if_neg (by omega)]
    by_cases hb : 0 ≤ badV t t.size 0
    · rw [if_pos hb]; exact ⟨fun _ => hb, fun _ => rfl⟩
    · rw [if_neg hb]
      obtain ⟨l, h1, h2⟩ := htl
      rw [h1, linesF_skip (says_no (.inl (by rw [h2]; exact note_words note)))]
      refine ⟨fun h => ?_, fun h => absurd h hb⟩
      exact absurd h (by show ¬ (4 : Int) = 5; decide)
  refine ⟨fun h => ?_, fun h => ?_⟩
  · have hb := ht5.1 h
    rw [hb, Bool.false_and, ← ok_bad] at hok
    unfold parseP
    rw [if_neg (by omega), if_pos hok]
  · have hb : okB t.data.toList = true := by
      cases e : okB t.data.toList with
      | true => rfl
      | false => exact absurd (ht5.2 e) h
    rw [hb, Bool.true_and] at hok
    refine parse_lines hs hw hok.symm ?_
    have hwl := lines_lines w
    rw [ew, linesG_cut _ _ _ hl, show (9 : UInt8) :: 10 :: expL s.data.toList = [9] ++ 10 :: expL s.data.toList from rfl, linesG_cut [9] _ _ (fun b hb => by rw [List.mem_singleton.1 hb]; decide)] at hwl
    cases hx : linesL w with
    | nil => rw [hx] at hwl; cases hwl
    | cons l0 r0 =>
      rw [hx] at hwl
      simp only [List.map_cons, List.cons.injEq, List.nil_append] at hwl
      cases hy : r0 with
      | nil => rw [hy] at hwl; cases hwl.2
      | cons l1 r1 =>
        rw [hy] at hwl
        simp only [List.map_cons, List.cons.injEq] at hwl
        rw [linesF_skip (says_no (.inl (by rw [hwl.1]; exact note_words note))), linesF_skip (says_no (.inr (by rw [hwl.2.1]; decide)))]
        refine linesF_alike ?_
        have h1 : (linesL s).map (fun x => wordsG [] x.data.toList) = r1.map (fun x => wordsG [] x.data.toList) := by
          have e := lines_exp s.data.toList [] [] (fun _ => rfl)
          rw [← lines_lines s, ← hwl.2.2, List.map_map, List.map_map] at e
          exact e.symm
        have h2 : ∀ (a b : List ByteArray), a.map (fun x => wordsG [] x.data.toList) = b.map (fun x => wordsG [] x.data.toList) → a.map fieldsL = b.map fieldsL := fun a => by
          induction a with
          | nil => intro b hb; cases b with
            | nil => rfl
            | cons _ _ => cases hb
          | cons x a ih => intro b hb; cases b with
            | nil => cases hb
            | cons y b =>
              simp only [List.map_cons, List.cons.injEq] at hb
              rw [List.map_cons, List.map_cons, fields_eq hb.1, ih b hb.2]
        exact h2 _ _ h1

/-! ### sizes -/
theorem linesF_small : ∀ (ls : List ByteArray) (n : Nat) (at_ : Int) (r r' : Rdr), Kept r n → n + ls.length ≤ 100000 → linesF ls at_ r = .inr r' → Small r'
  | [], n, at_, r, r', h, _, e => by
    rw [linesF] at e
    cases e
    exact h.toSmall
  | l :: ls, n, at_, r, r', h, hn, e => by
    rw [List.length_cons] at hn
    rw [linesF] at e
    split at e
    · split at e
      · cases e
      · exact linesF_small ls (n + 1) _ _ r' (kept_read h (by omega) _) (by omega) e
    · exact linesF_small ls (n + 1) _ r r' ⟨h.toSmall, by have := h.count; omega, h.flow⟩ (by omega) e
theorem pol0_sz : PolSz pol0 := ⟨by decide, by decide, by decide, by decide⟩
theorem parse_sz (s : ByteArray) : PolSz (parseP s).1 := by
  unfold parseP
  by_cases h1 : 65536 < s.size
  · rw [if_pos h1]; exact pol0_sz
  rw [if_neg h1]
  by_cases h2 : 0 ≤ badV s s.size 0
  · rw [if_pos h2]; exact pol0_sz
  rw [if_neg h2]
  cases ha : linesF (linesL s) 0 rdr0 with
  | inl q => exact pol0_sz
  | inr r =>
    have hl := (lines_ok s).2
    obtain ⟨k1, k2, k3, k4, k5⟩ := linesF_small _ 0 0 rdr0 r kept0 (by omega) ha
    show PolSz (endR s.size r).1
    unfold endR
    split
    · exact pol0_sz
    · split
      · exact ⟨by show r.lev.length * 16 ≤ _; omega, by show (closeM r.lev.length r.flows).length * 8 ≤ _; unfold closeM; rw [List.length_map, List.length_range]; omega, by show r.ins.length * 24 ≤ _; omega, by show r.outs.length * 24 ≤ _; omega⟩
      · exact pol0_sz
end Go.Proofs.YtcdfjaaipbjpnaaDoor

/- Policies: the answer's Same, of a policy and itself. -/
namespace Go.Proofs.YtcdfjaaipbjpnaaDoor
open Go.Sx
set_option linter.unusedVariables false
set_option linter.unusedSimpArgs false
set_option maxRecDepth 100000

theorem same5_spec (up : List M64) (hl : inI64 (up.length : Int)) : Pure PG 33 [vU up, vU up] (vb true) [] := by
  refine Proc.mk (cfg 26) tysOK [] Tryd.func33 rfl (by kernel_rfl) rfl rfl rfl ?_
  intro C x
  unfold inI64 at hl
  refine x.cond rfl trivial (fun h => ?_) (fun h => ?_)
  · have h : (!decide ((up.length : Int) = up.length)) = true := h
    simp at h
  refine x.loop (α := { i : Nat // i ≤ up.length }) (fun y => ⟨[(0, vU up), (1, vU up), (5, vi (y.1 : Int))], [], 0⟩) (fun y => up.length - y.1) ⟨0, by omega⟩ rfl trivial ⟨⟨veq_d rfl, veq_d rfl, rfl, trivial⟩, trivial, rfl⟩ (fun y => ?_)
  obtain ⟨i, hi⟩ := y
  change Go C _ ⟨[(0, vU up), (1, vU up), (5, vi (i : Int))], [], 0⟩ _
  refine x.cond rfl trivial (fun h1 => ?_) (fun h1 => ?_)
  · have h1 : i < up.length := by have := of_decide_eq_true h1; omega
    refine x.quiet rfl trivial mixedP (by kernel_rfl) ?_
    refine x.qdone rfl (by simp only [AllP]; omega) ?_
    refine x.cond rfl trivial (fun h2 => ?_) (fun h2 => ?_)
    · have h2 : (!decide (((upA up i).toNat : Int) = (upA up i).toNat)) = true := h2
      simp at h2
    · refine x.back rfl ?_ ⟨⟨i + 1, by omega⟩, by show up.length - (i + 1) < up.length - i; omega, ⟨veq_d rfl, veq_d rfl, (show VEq0 (vi ((i : Int) + 1)) (vi ((i + 1 : Nat) : Int)) by rw [Int.natCast_add]; rfl), trivial⟩, trivial, rfl⟩
      simp only [AllP, inI64]; omega
  · exact x.exit rfl trivial ⟨.inr rfl, rfl, trivial, rfl⟩

abbrev polB (p : Pol) : Ch := .box [vSs p.lev, vU p.up, vChs p.ins, vChs p.outs, vi p.depth]
theorem polB_eq (p : Pol) : ChEq (polB p) (polB p) := ⟨veq0_d rfl, veq0_d rfl, veq0_d rfl, veq0_d rfl, rfl, trivial⟩
theorem polSz_i64 {p : Pol} (h : PolSz p) : inI64 (p.lev.length : Int) ∧ inI64 (p.up.length : Int) ∧ inI64 (p.ins.length : Int) ∧ inI64 (p.outs.length : Int) := by
  obtain ⟨h1, h2, h3, h4⟩ := h
  unfold inI64; omega
set_option maxHeartbeats 2000000 in
theorem same6_spec (p : Pol) (h : PolSz p) : Pure PG 10 [vPol p, vPol p] (vb true) [] := by
  obtain ⟨i1, i2, i3, i4⟩ := polSz_i64 h
  refine Proc.mk (cfg 102) tysOK [] Tryd.func10 rfl (by kernel_rfl) rfl rfl rfl ?_
  intro C x
  refine x.pureG rfl trivial rfl (fun _ => same5_spec p.up i2) rfl ⟨veq_d rfl, veq_d rfl, trivial⟩ ?_
  unfold inI64 at i1 i3 i4
  refine x.cond rfl trivial (fun h => ?_) (fun h => ?_)
  · exfalso; revert h
    simp
  refine x.loop (α := { i : Nat // i ≤ p.lev.length }) (fun y => ⟨[(2, .ptr 0 0), (3, .ptr 1 0), (5, vi (y.1 : Int))], [(0, polB p), (1, polB p)], 2⟩) (fun y => p.lev.length - y.1) ⟨0, by omega⟩ rfl trivial ⟨⟨⟨rfl, rfl⟩, ⟨rfl, rfl⟩, rfl, trivial⟩, ⟨polB_eq p, polB_eq p, trivial⟩, rfl⟩ (fun y => ?_)
  obtain ⟨i, hi⟩ := y
  change Go C _ ⟨[(2, .ptr 0 0), (3, .ptr 1 0), (5, vi (i : Int))], [(0, polB p), (1, polB p)], 2⟩ _
  refine x.cond rfl trivial (fun h1 => ?_) (fun h1 => ?_)
  · have h1 : i < p.lev.length := by have := of_decide_eq_true h1; omega
    refine x.quiet rfl trivial mixedP (by kernel_rfl) ?_
    refine x.qdone rfl (by simp only [AllP]; omega) ?_
    refine x.cond rfl trivial (fun h2 => ?_) (fun h2 => ?_)
    · exfalso; revert h2
      simp
    · refine x.back rfl ?_ ⟨⟨i + 1, by omega⟩, by show p.lev.length - (i + 1) < p.lev.length - i; omega, ⟨⟨rfl, rfl⟩, ⟨rfl, rfl⟩, (show VEq0 (vi ((i : Int) + 1)) (vi ((i + 1 : Nat) : Int)) by rw [Int.natCast_add]; rfl), trivial⟩, ⟨polB_eq p, polB_eq p, trivial⟩, rfl⟩
      simp only [AllP, inI64]; omega
  refine x.loop (α := { i : Nat // i ≤ p.ins.length }) (fun y => ⟨[(2, .ptr 0 0), (3, .ptr 1 0), (6, vi (y.1 : Int))], [(0, polB p), (1, polB p)], 2⟩) (fun y => p.ins.length - y.1) ⟨0, by omega⟩ rfl trivial ⟨⟨⟨rfl, rfl⟩, ⟨rfl, rfl⟩, rfl, trivial⟩, ⟨polB_eq p, polB_eq p, trivial⟩, rfl⟩ (fun y => ?_)
  obtain ⟨i, hi⟩ := y
  change Go C _ ⟨[(2, .ptr 0 0), (3, .ptr 1 0), (6, vi (i : Int))], [(0, polB p), (1, polB p)], 2⟩ _
  refine x.cond rfl trivial (fun h1 => ?_) (fun h1 => ?_)
  · have h1 : i < p.ins.length := by have := of_decide_eq_true h1; omega
    refine x.quiet rfl trivial mixedP (by kernel_rfl) ?_
    refine x.qdone rfl (by simp only [AllP]; omega) ?_
    refine x.cond rfl trivial (fun h2 => ?_) (fun h2 => ?_)
    · exfalso; revert h2
      simp
    · refine x.back rfl ?_ ⟨⟨i + 1, by omega⟩, by show p.ins.length - (i + 1) < p.ins.length - i; omega, ⟨⟨rfl, rfl⟩, ⟨rfl, rfl⟩, (show VEq0 (vi ((i : Int) + 1)) (vi ((i + 1 : Nat) : Int)) by rw [Int.natCast_add]; rfl), trivial⟩, ⟨polB_eq p, polB_eq p, trivial⟩, rfl⟩
      simp only [AllP, inI64]; omega
  refine x.loop (α := { i : Nat // i ≤ p.outs.length }) (fun y => ⟨[(2, .ptr 0 0), (3, .ptr 1 0), (7, vi (y.1 : Int))], [(0, polB p), (1, polB p)], 2⟩) (fun y => p.outs.length - y.1) ⟨0, by omega⟩ rfl trivial ⟨⟨⟨rfl, rfl⟩, ⟨rfl, rfl⟩, rfl, trivial⟩, ⟨polB_eq p, polB_eq p, trivial⟩, rfl⟩ (fun y => ?_)
  obtain ⟨i, hi⟩ := y
  change Go C _ ⟨[(2, .ptr 0 0), (3, .ptr 1 0), (7, vi (i : Int))], [(0, polB p), (1, polB p)], 2⟩ _
  refine x.cond rfl trivial (fun h1 => ?_) (fun h1 => ?_)
  · have h1 : i < p.outs.length := by have := of_decide_eq_true h1; omega
    refine x.quiet rfl trivial mixedP (by kernel_rfl) ?_
    refine x.qdone rfl (by simp only [AllP]; omega) ?_
    refine x.cond rfl trivial (fun h2 => ?_) (fun h2 => ?_)
    · exfalso; revert h2
      simp
    · refine x.back rfl ?_ ⟨⟨i + 1, by omega⟩, by show p.outs.length - (i + 1) < p.outs.length - i; omega, ⟨⟨rfl, rfl⟩, ⟨rfl, rfl⟩, (show VEq0 (vi ((i : Int) + 1)) (vi ((i + 1 : Nat) : Int)) by rw [Int.natCast_add]; rfl), trivial⟩, ⟨polB_eq p, polB_eq p, trivial⟩, rfl⟩
      simp only [AllP, inI64]; omega
  exact x.exit rfl trivial ⟨.inr rfl, rfl, trivial, rfl⟩
end Go.Proofs.YtcdfjaaipbjpnaaDoor

/- Policies: the law PolicyNotes. -/
namespace Go.Proofs.YtcdfjaaipbjpnaaDoor
open Go.Sx
set_option linter.unusedVariables false
set_option linter.unusedSimpArgs false
set_option maxRecDepth 100000

theorem expL_app : ∀ (a b : List UInt8), expL (a ++ b) = expL a ++ expL b
  | [], b => rfl
  | x :: a, b => by rw [List.cons_append, expL, expL, expL_app a b, List.append_assoc]
theorem exp_take {s : ByteArray} {i : Nat} (h : i < s.size) : expL (s.data.toList.take (i + 1)) = expL (s.data.toList.take i) ++ expB (byt s i) := by
  have h' : i < s.data.toList.length := by rw [size_l]; exact h
  rw [List.take_succ_eq_append_getElem h', expL_app, expL, expL, List.append_nil]
  unfold byt
  rw [List.getD_eq_getElem?_getD, List.getElem?_eq_getElem h']; rfl
theorem one_l {s : ByteArray} {i : Nat} (h : i < s.size) : (s.extract i (i + 1)).data.toList = [byt s i] := by
  rw [ext_l, drop_byt h, show i + 1 - i = 1 by omega]; rfl
theorem sb_byt (s : ByteArray) (i : Nat) (c : UInt8) : sb s i = (c.toNat : Int) ↔ byt s i = c := by
  rw [sb_bt, ← byt_bt, ← UInt8.toNat_inj]; omega
theorem toNat_succ' (i : Nat) : ((i : Int) + 1).toNat = i + 1 := rfl
theorem sz1 (a : UInt8) : (⟨#[a]⟩ : ByteArray).size = 1 := rfl
theorem sz2 (a b : UInt8) : (⟨#[a, b]⟩ : ByteArray).size = 2 := rfl
theorem sz3 (a b c : UInt8) : (⟨#[a, b, c]⟩ : ByteArray).size = 3 := rfl
def hashB : ByteArray := ⟨#[35, 32]⟩
def tailB : ByteArray := ⟨#[10, 9, 10]⟩
def twoB : ByteArray := ⟨#[32, 32]⟩
def tabB : ByteArray := ⟨#[9]⟩
structure WLoop (s n : ByteArray) where
  i : Nat
  w : ByteArray
  hi : i ≤ s.size
  hw : w.data.toList = (35 :: 32 :: n.data.toList) ++ 10 :: 9 :: 10 :: expL (s.data.toList.take i)
  hz : w.size ≤ 40003
set_option maxHeartbeats 4000000 in
theorem notes_spec (s n : ByteArray) (hs : s.size ≤ 140737488355328) (hn : n.size ≤ 140737488355328) : Pure PG 4 [vs s, vs n] (vb true) [] := by
  refine Proc.mk (cfg 103) tysOK [] Tryd.func4 rfl (by kernel_rfl) rfl rfl rfl ?_
  intro C x
  refine x.cond rfl trivial (fun h1 => ?_) (fun h1 => ?_)
  · exact x.exit rfl trivial ⟨.inr rfl, rfl, trivial, rfl⟩
  have h1 : (decide ((s.size : Int) > 10000) || decide ((n.size : Int) > 1000)) = false := h1
  simp only [Bool.or_eq_false_iff, decide_eq_false_iff_not] at h1
  obtain ⟨z1, z2⟩ := h1
  refine x.loop (α := { i : Nat // i ≤ n.size ∧ ∀ j, j < i → byt n j ≠ 10 }) (fun y => ⟨[(0, vs s), (1, vs n), (5, vi (y.1 : Int))], [], 0⟩) (fun y => n.size - y.1) ⟨0, by omega, fun j hj => by omega⟩ rfl trivial ⟨⟨rfl, rfl, rfl, trivial⟩, trivial, rfl⟩ (fun y => ?_)
  obtain ⟨i, hi, hno⟩ := y
  change Go C _ ⟨[(0, vs s), (1, vs n), (5, vi (i : Int))], [], 0⟩ _
  refine x.cond rfl trivial (fun h2 => ?_) (fun h2 => ?_)
  · have h2 : i < n.size := by have := of_decide_eq_true h2; omega
    refine x.cond rfl (by simp only [AllP]; omega) (fun h3 => ?_) (fun h3 => ?_)
    · exact x.exit rfl trivial ⟨.inr rfl, rfl, trivial, rfl⟩
    · have h3 : decide (sb n i = 10) = false := h3
      have h3 : ¬ sb n i = 10 := of_decide_eq_false h3
      refine x.back rfl ?_ ⟨⟨i + 1, by omega, fun j hj => ?_⟩, by show n.size - (i + 1) < n.size - i; omega, ⟨rfl, rfl, (show VEq0 (vi ((i : Int) + 1)) (vi ((i + 1 : Nat) : Int)) by rw [Int.natCast_add]; rfl), trivial⟩, trivial, rfl⟩
      · simp only [AllP, inI64, Int.toNat_natCast, toNat_succ', app_size, ByteArray.size_extract, sz1, sz2, sz3]; omega
      · by_cases e : j = i
        · subst e; exact fun e => h3 ((sb_byt n j 10).2 e)
        · exact hno j (by omega)
  have h2 : i = n.size := by have := of_decide_eq_false h2; omega
  subst h2
  have hno' : ∀ b ∈ n.data.toList, b ≠ 10 := fun b hb => by
    obtain ⟨k, hk, rfl⟩ := List.getElem_of_mem hb
    have := hno k (by rw [← size_l]; exact hk)
    unfold byt at this
    rw [List.getD_eq_getElem?_getD, List.getElem?_eq_getElem hk] at this
    exact this
  have hsz0 : (hashB ++ n ++ tailB).size = n.size + 5 := by
    rw [app_size, app_size]
    show 2 + n.size + 3 = _
    omega
  refine x.loop (α := WLoop s n) (fun y => ⟨[(0, vs s), (1, vs n), (6, vs y.w), (7, vi (y.i : Int))], [], 0⟩) (fun y => s.size - y.i) ⟨0, hashB ++ n ++ tailB, by omega, ?_, by omega⟩ rfl ?_ ⟨⟨rfl, rfl, rfl, rfl, trivial⟩, trivial, rfl⟩ (fun y => ?_)
  · rw [app_data, app_data]
    show ([35, 32] ++ n.data.toList) ++ [10, 9, 10] = _
    simp [expL]
  · simp only [AllP, app_size, sz2, sz3, inI64]; omega
  obtain ⟨i, w, hi, hw, hz⟩ := y
  change Go C _ ⟨[(0, vs s), (1, vs n), (6, vs w), (7, vi (i : Int))], [], 0⟩ _
  refine x.cond rfl trivial (fun h3 => ?_) (fun h3 => ?_)
  · have h3 : i < s.size := by have := of_decide_eq_true h3; omega
    refine x.cond rfl trivial (fun h4 => ?_) (fun h4 => ?_)
    · exact x.exit rfl trivial ⟨.inr rfl, rfl, trivial, rfl⟩
    have h4 : ¬ ((w.size : Int) > 40000) := of_decide_eq_false h4
    have e1 : (w ++ s.extract i (i + 1)).data.toList = w.data.toList ++ [byt s i] := by rw [app_data, one_l h3]
    have e1z : (w ++ s.extract i (i + 1)).size = w.size + 1 := by rw [app_size, ByteArray.size_extract]; omega
    refine x.cond rfl (by simp only [AllP, inI64, Int.toNat_natCast, toNat_succ', app_size, ByteArray.size_extract, sz1, sz2, sz3]; omega) (fun h5 => ?_) (fun h5 => ?_)
    · have h5 : byt s i = 10 := (sb_byt s i 10).1 (of_decide_eq_true h5)
      refine x.cond rfl (by simp only [AllP, inI64, Int.toNat_natCast, toNat_succ', app_size, ByteArray.size_extract, sz1, sz2, sz3]; omega) (fun h6 => ?_) (fun h6 => ?_)
      · have h6 : byt s i = 32 := (sb_byt s i 32).1 (of_decide_eq_true h6)
        rw [h5] at h6; cases h6
      · refine x.back rfl ?_ ⟨⟨i + 1, w ++ s.extract i (i + 1) ++ twoB, by omega, ?_, ?_⟩, by show s.size - (i + 1) < s.size - i; omega, ⟨rfl, rfl, rfl, (show VEq0 (vi ((i : Int) + 1)) (vi ((i + 1 : Nat) : Int)) by rw [Int.natCast_add]; rfl), trivial⟩, trivial, rfl⟩
        · simp only [AllP, inI64, Int.toNat_natCast, toNat_succ', app_size, ByteArray.size_extract, sz1, sz2, sz3]; omega
        · rw [app_data, e1, hw, exp_take h3, h5, expB, if_pos rfl]
          show _ ++ [32, 32] = _
          simp
        · rw [app_size, e1z]; show w.size + 1 + 2 ≤ _; omega
    · have h5 : ¬ byt s i = 10 := fun e => by
        have := of_decide_eq_false h5
        exact this ((sb_byt s i 10).2 e)
      refine x.cond rfl (by simp only [AllP, inI64, Int.toNat_natCast, toNat_succ', app_size, ByteArray.size_extract, sz1, sz2, sz3]; omega) (fun h6 => ?_) (fun h6 => ?_)
      · have h6 : byt s i = 32 := (sb_byt s i 32).1 (of_decide_eq_true h6)
        refine x.back rfl ?_ ⟨⟨i + 1, w ++ s.extract i (i + 1) ++ tabB, by omega, ?_, ?_⟩, by show s.size - (i + 1) < s.size - i; omega, ⟨rfl, rfl, rfl, (show VEq0 (vi ((i : Int) + 1)) (vi ((i + 1 : Nat) : Int)) by rw [Int.natCast_add]; rfl), trivial⟩, trivial, rfl⟩
        · simp only [AllP, inI64, Int.toNat_natCast, toNat_succ', app_size, ByteArray.size_extract, sz1, sz2, sz3]; omega
        · rw [app_data, e1, hw, exp_take h3, h6, expB, if_neg (by decide), if_pos rfl]
          show _ ++ [9] = _
          simp
        · rw [app_size, e1z]; show w.size + 1 + 1 ≤ _; omega
      · have h6 : ¬ byt s i = 32 := fun e => by
          have := of_decide_eq_false h6
          exact this ((sb_byt s i 32).2 e)
        refine x.back rfl ?_ ⟨⟨i + 1, w ++ s.extract i (i + 1), by omega, ?_, ?_⟩, by show s.size - (i + 1) < s.size - i; omega, ⟨rfl, rfl, rfl, (show VEq0 (vi ((i : Int) + 1)) (vi ((i + 1 : Nat) : Int)) by rw [Int.natCast_add]; rfl), trivial⟩, trivial, rfl⟩
        · simp only [AllP, inI64, Int.toNat_natCast, toNat_succ', app_size, ByteArray.size_extract, sz1, sz2, sz3]; omega
        · rw [e1, hw, exp_take h3, expB, if_neg h5, if_neg h6]
          simp
        · rw [e1z]; omega
  have h3 : i = s.size := by have := of_decide_eq_false h3; omega
  subst h3
  rw [show s.data.toList.take s.size = s.data.toList from List.take_of_length_le (by rw [size_l]; exact Nat.le_refl _)] at hw
  have htz : (hashB ++ n).size = n.size + 2 := by
    rw [app_size]
    show 2 + n.size = _
    omega
  obtain ⟨w5, wn⟩ := wide_same (s := s) (t := hashB ++ n) (w := w) (note := n.data.toList) (by omega) (by omega) (by omega) hno' (by rw [app_data]; rfl) hw
  have hsz := parse_sz s
  refine x.pure rfl trivial rfl (parse6_spec s (by omega)) ⟨rfl, trivial⟩ ?_
  refine x.pure rfl (by simp only [AllP, app_size, sz2]; omega) rfl (parse6_spec (hashB ++ n) (by omega)) ⟨rfl, trivial⟩ ?_
  refine x.pure rfl trivial rfl (parse6_spec w (by omega)) ⟨rfl, trivial⟩ ?_
  generalize parseP s = PS at *
  generalize parseP (hashB ++ n) = PT at *
  generalize parseP w = PW at *
  obtain ⟨p, a, e⟩ := PS
  obtain ⟨pt, at_, et⟩ := PT
  obtain ⟨pw, aw, ew⟩ := PW
  refine x.cond rfl trivial (fun h4 => ?_) (fun h4 => ?_)
  · have h4 : et = 5 := of_decide_eq_true h4
    have h5 : ew = 5 := w5 h4
    subst h5
    refine x.pureG rfl trivial rfl (fun _ => awake6_spec) rfl trivial ?_
    exact x.exit rfl trivial ⟨.inr rfl, rfl, trivial, rfl⟩
  · have h4 : ¬ et = 5 := of_decide_eq_false h4
    obtain ⟨h5, h6⟩ := wn h4
    obtain rfl : e = ew := h5
    obtain rfl : p = pw := h6
    refine x.pureG rfl trivial rfl (fun _ => same6_spec p hsz) rfl ⟨⟨veq0_d rfl, veq0_d rfl, veq0_d rfl, veq0_d rfl, rfl, trivial⟩, ⟨veq0_d rfl, veq0_d rfl, veq0_d rfl, veq0_d rfl, rfl, trivial⟩, trivial⟩ ?_
    refine x.pureG rfl trivial rfl (fun _ => awake6_spec) rfl trivial ?_
    refine x.exit rfl trivial ⟨.inr rfl, ?_, trivial, rfl⟩
    refine (show VEq0 (vb _) (vb true) from ?_)
    simp; exact rfl
end Go.Proofs.YtcdfjaaipbjpnaaDoor

/- Policies that are handed in, as data; a row whose walk wants the world's shape. -/
namespace Go.Proofs.YtcdfjaaipbjpnaaDoor
open Go.Sx
set_option linter.unusedVariables false
set_option linter.unusedSimpArgs false

theorem conf_lst {α : Type} {z : Nat} {τ : List DTy} {x : D} (d : α → List D) (P : α → Prop) (a0 : α) (each : ∀ ds, Conf τ ds → ∃ a, P a ∧ ds.length = (d a).length ∧ ∀ (j : Nat) (u u' : D), ds[j]? = some u → (d a)[j]? = some u' → DQ u u')
    (h : Conf1 (.sl z τ) x) : ∃ l : List α, DQ x (.sl τ.length l.length fun i => d (l.getD i a0)) ∧ (l.length ≤ maxLen ∧ l.length * z ≤ reachBytes) ∧ ∀ a ∈ l, P a := by
  cases h with
  | sl _ _ n f hn hz hl hc =>
    have each' : ∀ i, i < n → ∃ a, P a ∧ (f i).length = (d a).length ∧ ∀ (j : Nat) (u u' : D), (f i)[j]? = some u → (d a)[j]? = some u' → DQ u u' := fun i hi => each (f i) ⟨hl i hi, fun j t d ht hd => hc i j t d hi ht hd⟩
    let g : Nat → α := fun i => if h : i < n then Classical.choose (each' i h) else a0
    have hg : ∀ i, i < n → P (g i) ∧ (f i).length = (d (g i)).length ∧ ∀ (j : Nat) (u u' : D), (f i)[j]? = some u → (d (g i))[j]? = some u' → DQ u u' := fun i hi => by
      have e : g i = Classical.choose (each' i hi) := by simp only [g, hi, dite_true]
      rw [e]
      exact Classical.choose_spec (each' i hi)
    have hgd : ∀ i, i < n → ((List.range n).map g).getD i a0 = g i := fun i hi => by
      rw [List.getD_eq_getElem?_getD, List.getElem?_eq_getElem (by simpa using hi)]; simp
    refine ⟨(List.range n).map g, ?_, by simpa using ⟨hn, hz⟩, fun o ho => ?_⟩
    · rw [show ((List.range n).map g).length = n by simp]
      refine .sl _ n _ _ (fun i hi => ?_) fun i j u u' hi hd hd' => ?_
      · rw [hgd i hi]; exact (hg i hi).2.1
      · rw [hgd i hi] at hd'
        exact (hg i hi).2.2 j u u' hd hd'
    · obtain ⟨i, hi, rfl⟩ := List.mem_map.1 ho
      exact (hg i (List.mem_range.1 hi)).1
def StrZ (s : ByteArray) : Prop := s.size ≤ 140737488355328
theorem reach_z {s : ByteArray} (h : s.size ≤ reachBytes) : StrZ s := by
  have := reachBytes_lt
  unfold StrZ; omega
theorem wf_i64 {n : Int} (h : (Lit.int .i64 n).wf = true) : inI64 n := by
  simp only [Lit.wf, Bool.and_eq_true, decide_eq_true_eq] at h
  exact h
theorem wf_u64 {n : Int} (h : (Lit.int .u64 n).wf = true) : 0 ≤ n ∧ n ≤ 18446744073709551615 := by
  simp only [Lit.wf, Bool.and_eq_true, decide_eq_true_eq] at h
  exact h
structure PolOK (p : Pol) : Prop where
  sz : PolSz p
  lev : ∀ s ∈ p.lev, StrZ s
  ins : ∀ c ∈ p.ins, StrZ c.1 ∧ inI64 c.2
  outs : ∀ c ∈ p.outs, StrZ c.1 ∧ inI64 c.2
  depth : inI64 p.depth
theorem conf_ss {z : Nat} {x : D} (h : Conf1 (.sl z [.str]) x) : ∃ l : List ByteArray, DQ x (dSs l) ∧ (l.length ≤ maxLen ∧ l.length * z ≤ reachBytes) ∧ ∀ a ∈ l, StrZ a :=
  conf_lst (fun s => [D.str s]) StrZ .empty (fun ds ⟨hl, hc⟩ => by
    match ds, hl with
    | [d0], _ =>
      obtain ⟨s, rfl, h1, h2⟩ := conf_str (hc 0 _ _ rfl rfl)
      refine ⟨s, reach_z h2, rfl, fun j u u' hd hd' => ?_⟩
      match j with
      | 0 => simp at hd hd'; subst hd hd'; exact .refl _
      | j + 1 => simp at hd) h
theorem conf_up {z : Nat} {x : D} (h : Conf1 (.sl z [.int .u64]) x) : ∃ l : List M64, DQ x (dUp l) ∧ (l.length ≤ maxLen ∧ l.length * z ≤ reachBytes) ∧ ∀ a ∈ l, True :=
  conf_lst (fun m => [dm m]) (fun _ => True) 0#64 (fun ds ⟨hl, hc⟩ => by
    match ds, hl with
    | [d0], _ =>
      obtain ⟨n, rfl, h1⟩ := conf_int (hc 0 _ _ rfl rfl)
      have h2 := wf_u64 h1
      refine ⟨BitVec.ofInt 64 n, trivial, rfl, fun j u u' hd hd' => ?_⟩
      match j with
      | 0 =>
        simp only [List.getElem?_cons_zero, Option.some.injEq] at hd hd'
        subst hd hd'
        have e : ((BitVec.ofInt 64 n).toNat : Int) = n := by
          rw [BitVec.toNat_ofInt]; omega
        unfold dm
        rw [e]; exact .refl _
      | j + 1 => simp at hd) h
theorem conf_chs {z : Nat} {x : D} (h : Conf1 (.sl z [.str, .int .i64]) x) : ∃ l : List Chan, DQ x (dChs l) ∧ (l.length ≤ maxLen ∧ l.length * z ≤ reachBytes) ∧ ∀ a ∈ l, StrZ a.1 ∧ inI64 a.2 :=
  conf_lst (fun c : Chan => [D.str c.1, D.int .i64 c.2]) (fun c => StrZ c.1 ∧ inI64 c.2) chan0 (fun ds ⟨hl, hc⟩ => by
    match ds, hl with
    | [d0, d1], _ =>
      obtain ⟨s, rfl, h1, h2⟩ := conf_str (hc 0 _ _ rfl rfl)
      obtain ⟨n, rfl, h3⟩ := conf_int (hc 1 _ _ rfl rfl)
      refine ⟨(s, n), ⟨reach_z h2, wf_i64 h3⟩, rfl, fun j u u' hd hd' => ?_⟩
      match j with
      | 0 => simp at hd hd'; subst hd hd'; exact .refl _
      | 1 => simp at hd hd'; subst hd hd'; exact .refl _
      | j + 2 => simp at hd) h
abbrev polTy : List DTy := [.sl 16 [.str], .sl 8 [.int .u64], .sl 24 [.str, .int .i64], .sl 24 [.str, .int .i64], .int .i64]
theorem conf_polV {F : Nat → Prop} {w : World} {ρ : Nat → Value} {ds : List D} {cs : List Value} (h : Conf polTy ds) (hr : All2 (RD F w) ds cs) : ∃ x : Pol, PolOK x ∧ R3 ρ F w (vPol x) (.agg cs.toArray) := by
  obtain ⟨hl, hc⟩ := h
  match ds, hl, cs, hr with
  | [d0, d1, d2, d3, d4], _, [c0, c1, c2, c3, c4], ⟨r0, r1, r2, r3, r4, _⟩ =>
    obtain ⟨l0, q0, w0, z0⟩ := conf_ss (hc 0 _ _ rfl rfl)
    obtain ⟨l1, q1, w1, z1⟩ := conf_up (hc 1 _ _ rfl rfl)
    obtain ⟨l2, q2, w2, z2⟩ := conf_chs (hc 2 _ _ rfl rfl)
    obtain ⟨l3, q3, w3, z3⟩ := conf_chs (hc 3 _ _ rfl rfl)
    obtain ⟨n4, rfl, w4⟩ := conf_int (hc 4 _ _ rfl rfl)
    have := reachBytes_lt
    exact ⟨⟨l0, l1, l2, l3, n4⟩, ⟨⟨by show l0.length * 16 ≤ _; omega, by show l1.length * 8 ≤ _; omega, by show l2.length * 24 ≤ _; omega, by show l3.length * 24 ≤ _; omega⟩, z0, z2, z3, wf_i64 w4⟩, ⟨_, rfl, q0.sound r0, q1.sound r1, q2.sound r2, q3.sound r3, r4, trivial⟩⟩

/-- A row's claim from a walk that is told what the tables hold and that the world has the program's shape. -/
theorem returns_shaped {H : Type} {enc : TypeId × Value → H} {a : Assume} {C : Checked} {os : Os} {f : FuncId} {fn : Func} {s : ChangeSpec} {conds : List PathCond} {apart fresh handsOn again : Bool} {X : World → Array Value → Prop}
    (hX : ∀ (w w' : World) (args : Array Value), w.heap = w'.heap → X w args → X w' args)
    (own : ownKnob C.prog.godebug = none) (started : os.Started) (noInit : C.prog.inits.idxOf? f = none) (hfn : C.prog.funcs[f]? = some fn)
    (witness : ∃ (w : World) (tape : Tape) (i : Input), w.os = os ∧ (w.forCall tape i).Shaped C.prog ∧ i.vars = [] ∧ Input.okWide C.prog (w.forCall tape i) .any w.heap.size f i ∧
      ((s.pre enc C.prog fn conds apart (w.forCall tape i).memory i.args ∧ X (w.forCall tape i).memory i.args) ∧ sizedMet enc C.prog fn (OpenSpec.ofChange s) apart (w.forCall tape i).memory i.args) ∧ a.holds C.prog (lone (Frame.enter C.prog f i.args .normal) [] (w.forCall tape i)))
    (walk : ∀ (W : World) (base : Nat) (args : Array Value) (ds gs : List (DataW H)) (before : List MemPlace), W.ShapedOpen C.prog →
      (∀ (j : Nat) t v, fn.params[j]? = some t → args[j]? = some v → Value.okWide C.prog W .any base t v) →
      DataW.Whole enc C.prog fn.params.toList s.vars apart W args.toList ds gs before →
      conds.all (PathCond.test C.prog ⟨fn.params.toList, ds, s.plain.varTypes C.prog, gs⟩) = true →
      (DataW.weightsEach C.prog (fn.params.toList ++ s.plain.varTypes C.prog) (ds ++ gs)).all (· ≤ reachBytes) = true → X W args →
      a.holds C.prog (lone (Frame.enter C.prog f args .normal) [] W) →
      Calls C.prog f args W fun e W' => ∃ v, e = .returned v ∧ s.post enc C.prog fn apart fresh handsOn again W args v W') :
    ReturnsInHanded a C os f .any (fun w args => (s.pre enc C.prog fn conds apart w args ∧ X w args) ∧ sizedMet enc C.prog fn (OpenSpec.ofChange s) apart w args) (s.post enc C.prog fn apart fresh handsOn again) :=
  returnsInHanded_of_calls own started noInit witness fun w tape i _ hshape _ hin ⟨⟨⟨ds, gs, before, hwhole, hcond⟩, hx⟩, hz⟩ hh => by
    obtain ⟨_, _, _, fn', e, _, _, _, _, hv⟩ := hin
    cases hfn.symm.trans e
    refine (walk _ w.heap.size i.args ds gs before hshape hv (DataW.Whole.of_heap (w' := w.forCall tape i) (by rfl) hwhole) hcond (hz.weights hwhole) (hX _ _ _ (by rfl) hx) hh).mono ?_
    rintro e W' ⟨v, rfl, hp⟩
    exact ChangeSpec.post_blind hp
end Go.Proofs.YtcdfjaaipbjpnaaDoor
