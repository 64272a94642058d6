/- Texts put together: T26P, T01S, T01V, T26B, T06H, T26C, T26D. -/
import Derived.Test.YtcdfjaaipbjpnaaDoorMC
import Derived.Test.YtcdfjaaipbjpnaaDoorMA
import Derived.Test.YtcdfjaaipbjpnaaDoorSxE
import Derived.Test.YtcdfjaaipbjpnaaDoorMB
import Derived.Test.YtcdfjaaipbjpnaaDoorShelf
import Derived.Test.YtcdfjaaipbjpnaaDoorSxF
import Derived.Handed
import Derived.Shelf.Vars

/- Policies, plain: what is written is read as that. -/
namespace Go.Proofs.YtcdfjaaipbjpnaaDoor
open Go.Sx
set_option linter.unusedVariables false
set_option linter.unusedSimpArgs false
set_option maxRecDepth 100000

/-! ### names -/
theorem letB_dec {sz p a b c d : Nat} (ha : a < 256) (h : letB ((dec sz p a b c d).1 : Int) = true ∨ digB ((dec sz p a b c d).1 : Int) = true) : (dec sz p a b c d).2 ≤ 2 ∧ a ≠ 10 ∧ a ≠ 32 ∧ a ≠ 9 ∧ a ≠ 35 ∧ (1 < (dec sz p a b c d).2 → 127 < b) := by
  have hr : ((dec sz p a b c d).1 ≤ 969 ∧ 48 ≤ (dec sz p a b c d).1) := by
    unfold letB digB at h
    simp only [Bool.or_eq_true, Bool.and_eq_true, decide_eq_true_eq] at h
    omega
  revert hr
  unfold dec
  repeat' split
  all_goals dsimp only
  all_goals omega
theorem nameW_facts (s : ByteArray) : ∀ (n p : Nat) (c : Int), s.size ≤ p + n → 0 ≤ c → c ≤ 24 → nameW s n p c = true → (s.size : Int) ≤ p + 2 * (24 - c) ∧ ∀ k, p ≤ k → k < s.size → bt s k ≠ 10 ∧ bt s k ≠ 32 ∧ bt s k ≠ 9 ∧ bt s k ≠ 35
  | 0, p, c, h, _, _, _ => ⟨by omega, fun k h1 h2 => by omega⟩
  | n + 1, p, c, h, h0, h1, hw => by
    rw [nameW] at hw
    split at hw
    · rename_i hp
      split at hw
      · cases hw
      · rename_i hg
        split at hw
        · cases hw
        · have hd := decode_pos s p
          obtain ⟨i1, i2⟩ := nameW_facts s n (p + (Utf8.decode s p).2) (c + 1) (by omega) (by omega) (by omega) hw
          have hg : letB ((Utf8.decode s p).1 : Int) = true ∨ digB ((Utf8.decode s p).1 : Int) = true := by
            cases e1 : letB ((Utf8.decode s p).1 : Int) with
            | true => exact .inl rfl
            | false =>
              cases e2 : digB ((Utf8.decode s p).1 : Int) with
              | true => exact .inr rfl
              | false => rw [e1, e2] at hg; simp at hg
          rw [decode_eq] at hg
          have := letB_dec (bt_lt s p) hg
          rw [← decode_eq] at this
          refine ⟨by omega, fun k k1 k2 => ?_⟩
          by_cases e : k = p
          · subst e; exact ⟨this.2.1, this.2.2.1, this.2.2.2.1, this.2.2.2.2.1⟩
          · by_cases e1 : p + (Utf8.decode s p).2 ≤ k
            · exact i2 k e1 k2
            · have e3 : k = p + 1 := by omega
              have := this.2.2.2.2.2 (by omega)
              rw [e3]; omega
    · exact ⟨by omega, fun k h1 h2 => by omega⟩
theorem nameW_ok (s : ByteArray) : ∀ (n p : Nat) (c : Int), nameW s n p c = true → (dl s n p).all okR = true
  | 0, p, c, _ => rfl
  | n + 1, p, c, hw => by
    rw [nameW] at hw
    rw [dl]
    split at hw
    · rename_i hp
      rw [if_pos hp]
      split at hw
      · cases hw
      · rename_i hg
        split at hw
        · cases hw
        · rw [List.all_cons, nameW_ok s n _ _ hw, Bool.and_true]
          unfold okR
          by_cases e : (Utf8.decode s p).1 = 65533
          · rw [e, show letB ((65533 : Nat) : Int) = false from by decide, show digB ((65533 : Nat) : Int) = false from by decide] at hg
            simp at hg
          · simp [e]
    · rename_i hp
      rw [if_neg hp]; rfl
/-- What a word of a line must be. -/
structure GW (w : ByteArray) : Prop where
  ne : tl w ≠ []
  no : ∀ b ∈ tl w, b ≠ 10 ∧ blkB b = false
  ok : okB (tl w) = true
theorem gw_name {s : ByteArray} (h : nameB s = true) : GW s ∧ s.size ≤ 48 ∧ sb s 0 ≠ 35 := by
  unfold nameB at h
  rw [Bool.and_eq_true] at h
  have h := h.1
  obtain ⟨h1, h2⟩ := nameW_facts s s.size 0 0 (by omega) (by omega) (by omega) h
  have hne : s.size ≠ 0 := fun e => by
    rw [e] at h
    exact absurd h (by rw [nameW]; decide)
  have hok : badV s s.size 0 < 0 := (bad_rl s).2.2 (nameW_ok s s.size 0 0 h)
  refine ⟨⟨fun e => hne ((tl_nil s).1 e), fun b hb => ?_, ?_⟩, by omega, ?_⟩
  · obtain ⟨k, hk, rfl⟩ := List.getElem_of_mem hb
    rw [size_l] at hk
    have := h2 k (Nat.zero_le _) hk
    have e : (tl s)[k]'(by rw [size_l]; exact hk) = byt s k := by
      unfold byt
      rw [List.getD_eq_getElem?_getD, List.getElem?_eq_getElem (by rw [size_l]; exact hk)]; rfl
    rw [e]
    refine ⟨fun q => this.1 (by rw [← byt_bt, q]; rfl), ?_⟩
    cases q : blkB (byt s k) with
    | false => rfl
    | true => have := (blk_bt s k).1 q; omega
  · have := ok_bad s
    cases q : okB (tl s) with
    | true => rfl
    | false => have := this.2 q; omega
  · have := h2 0 (Nat.le_refl _) (by omega)
    rw [sb_bt]; omega

/-! ### lines of words -/
def joinL : List ByteArray → List UInt8
  | [] => []
  | [w] => tl w
  | w :: v :: r => tl w ++ 32 :: joinL (v :: r)
def textL (W : List (List ByteArray)) : List UInt8 := W.flatMap fun ws => joinL ws ++ [10]
theorem words_join : ∀ ws : List ByteArray, (∀ w ∈ ws, GW w) → wordsG [] (joinL ws) = ws.map tl
  | [], _ => rfl
  | [w], h => by
    have hw := h w (.head _)
    have := wordsG_more (tl w) [] [] fun b hb => (hw.no b hb).2
    rw [List.append_nil, List.nil_append] at this
    rw [joinL, this, wordsG, if_neg hw.ne]; rfl
  | w :: v :: r, h => by
    have hw := h w (.head _)
    rw [joinL, wordsG_more (tl w) [] _ fun b hb => (hw.no b hb).2, List.nil_append, wordsG, if_pos (show blkB 32 = true from by decide), if_neg hw.ne, words_join (v :: r) fun x hx => h x (.tail _ hx)]
    rfl
theorem join_no : ∀ ws : List ByteArray, (∀ w ∈ ws, GW w) → ∀ b ∈ joinL ws, b ≠ 10
  | [], _, b, hb => by cases hb
  | [w], h, b, hb => ((h w (.head _)).no b hb).1
  | w :: v :: r, h, b, hb => by
    rw [joinL] at hb
    rcases List.mem_append.1 hb with hb | hb
    · exact ((h w (.head _)).no b hb).1
    · rcases List.mem_cons.1 hb with rfl | hb
      · decide
      · exact join_no (v :: r) (fun x hx => h x (.tail _ hx)) b hb
theorem join_ok : ∀ ws : List ByteArray, (∀ w ∈ ws, GW w) → okB (joinL ws) = true
  | [], _ => rfl
  | [w], h => (h w (.head _)).ok
  | w :: v :: r, h => by
    rw [joinL, okB_app _ _ _ (by decide), (h w (.head _)).ok, join_ok (v :: r) fun x hx => h x (.tail _ hx)]; rfl
def GL (ws : List ByteArray) : Prop := ∃ w r, ws = w :: r ∧ (∀ x ∈ ws, GW x) ∧ sb w 0 ≠ 35
theorem lines_text : ∀ W : List (List ByteArray), (∀ ws ∈ W, GL ws) → linesG [] (textL W) = W.map joinL ++ [[]]
  | [], _ => rfl
  | ws :: W, h => by
    obtain ⟨_, _, _, hg, _⟩ := h ws (.head _)
    have e : textL (ws :: W) = joinL ws ++ 10 :: textL W := by simp [textL]
    rw [e, linesG_cut _ _ _ (join_no ws hg), lines_text W fun x hx => h x (.tail _ hx)]
    rfl
theorem text_ok : ∀ W : List (List ByteArray), (∀ ws ∈ W, GL ws) → okB (textL W) = true
  | [], _ => rfl
  | ws :: W, h => by
    obtain ⟨_, _, _, hg, _⟩ := h ws (.head _)
    have e : textL (ws :: W) = joinL ws ++ 10 :: textL W := by simp [textL]
    rw [e, okB_app _ _ _ (by decide), join_ok ws hg, text_ok W fun x hx => h x (.tail _ hx)]; rfl
def readsF : List (List ByteArray) → Rdr → Option Rdr
  | [], r => some r
  | ws :: W, r => if (readR r ws).2 = 0 then readsF W (readR r ws).1 else none
theorem reads_app : ∀ (A B : List (List ByteArray)) (r r' : Rdr), readsF A r = some r' → readsF (A ++ B) r = readsF B r'
  | [], B, r, r', h => by cases h; rfl
  | ws :: A, B, r, r', h => by
    rw [readsF] at h
    rw [List.cons_append, readsF]
    split at h
    · rename_i e
      rw [if_pos e]; exact reads_app A B _ _ h
    · cases h
theorem lines_reads : ∀ (W : List (List ByteArray)) (ls : List ByteArray) (at_ : Int) (r r' : Rdr), (∀ ws ∈ W, GL ws) → ls.map tl = W.map joinL ++ [[]] → readsF W r = some r' → linesF ls at_ r = .inr r'
  | [], ls, at_, r, r', _, hl, h => by
    match ls, hl with
    | [], hl => simp at hl
    | _ :: _ :: _, hl => simp at hl
    | [l], hl =>
      cases h
      have e : tl l = [] := by simpa using hl
      have e2 : fieldsL l = [] := by
        refine map_tl_inj ?_
        rw [show (fieldsL l).map tl = wordsG [] (tl l) from fields_words l, e]; rfl
      rw [linesF, e2, if_neg (by decide), linesF]
  | ws :: W, ls, at_, r, r', hg, hl, h => by
    match ls, hl with
    | l :: ls, hl =>
      simp only [List.map_cons, List.cons_append, List.cons.injEq] at hl
      obtain ⟨w, rest, e, h1, h2⟩ := hg ws (.head _)
      have ef : fieldsL l = ws := by
        refine map_tl_inj ?_
        rw [show (fieldsL l).map tl = wordsG [] (tl l) from fields_words l, hl.1, words_join ws h1]
      rw [readsF] at h
      have hs : says ws = true := by
        unfold says
        rw [e, show w_ (w :: rest) 0 = w from rfl, decide_eq_false h2]; simp
      rw [linesF, ef, if_pos hs]
      split at h
      · rename_i e0
        rw [if_neg (by simpa using e0)]
        exact lines_reads W ls _ _ r' (fun x hx => hg x (.tail _ hx)) hl.2 h
      · cases h
theorem parse_of_reads {s : ByteArray} {W : List (List ByteArray)} {r : Rdr} (hs : tl s = textL W) (hz : s.size ≤ 65536) (hg : ∀ ws ∈ W, GL ws) (h : readsF W rdr0 = some r) : parseP s = endR s.size r := by
  have hl : (linesL s).map tl = W.map joinL ++ [[]] := by
    rw [show (linesL s).map tl = linesG [] (tl s) from lines_lines s, hs, lines_text W hg]
  have hb : ¬ 0 ≤ badV s s.size 0 := fun e => by
    have := (ok_bad s).1 e
    rw [show s.data.toList = textL W from hs, text_ok W hg] at this
    cases this
  rw [parseP, if_neg (by omega), if_neg hb, lines_reads W _ 0 rdr0 r hg hl h]

/-! ### where names stand -/
def idxK (K : List (List UInt8)) (k : List UInt8) : Int := idxF (fun i => decide (K.getD i [] = k)) K.length 0
theorem getK {α : Type} (f : α → List UInt8) (a0 : α) (l : List α) (h0 : f a0 = []) (i : Nat) : (l.map f).getD i [] = f (l.getD i a0) := by
  rw [List.getD_eq_getElem?_getD, List.getD_eq_getElem?_getD, List.getElem?_map]
  cases l[i]? with
  | none => exact h0.symm
  | some x => rfl
theorem idxS_K (l : List ByteArray) (s : ByteArray) : idxS l s = idxK (l.map tl) (tl s) := by
  unfold idxS idxK
  rw [List.length_map]
  congr 1
  funext i
  rw [getK tl .empty l rfl i]
theorem idxC_K (l : List Chan) (s : ByteArray) : idxC l s = idxK (l.map fun c => tl c.1) (tl s) := by
  unfold idxC idxK
  rw [List.length_map]
  congr 1
  funext i
  rw [getK (fun c : Chan => tl c.1) chan0 l rfl i]
theorem idxF_at {p : Nat → Bool} : ∀ {n i k : Nat}, idxF p n i = (k : Int) ↔ i ≤ k ∧ k < i + n ∧ p k = true ∧ ∀ j, i ≤ j → j < k → p j = false
  | 0, i, k => by
    rw [idxF]
    exact ⟨fun h => by omega, fun h => by omega⟩
  | n + 1, i, k => by
    rw [idxF]
    cases hp : p i with
    | true =>
      rw [if_pos rfl]
      constructor
      · intro h
        obtain rfl : i = k := by omega
        exact ⟨Nat.le_refl _, by omega, hp, fun j h1 h2 => by omega⟩
      · rintro ⟨h1, h2, h3, h4⟩
        by_cases e : i = k
        · rw [e]
        · have := h4 i (Nat.le_refl _) (by omega)
          rw [hp] at this; cases this
    | false =>
      rw [if_neg (by simp), idxF_at]
      constructor
      · rintro ⟨h1, h2, h3, h4⟩
        refine ⟨by omega, by omega, h3, fun j j1 j2 => ?_⟩
        by_cases e : j = i
        · rw [e]; exact hp
        · exact h4 j (by omega) j2
      · rintro ⟨h1, h2, h3, h4⟩
        have : i ≠ k := fun e => by rw [e] at hp; rw [hp] at h3; cases h3
        exact ⟨by omega, by omega, h3, fun j j1 j2 => h4 j (by omega) j2⟩
theorem K_get {K : List (List UInt8)} {i : Nat} (h : i < K.length) : K.getD i [] = K[i] := by
  rw [List.getD_eq_getElem?_getD, List.getElem?_eq_getElem h]; rfl
theorem idxK_lt {K : List (List UInt8)} {k : List UInt8} : idxK K k < 0 ↔ k ∉ K := by
  have : 0 ≤ idxK K k ↔ k ∈ K := by
    unfold idxK
    rw [idxF_iff]
    constructor
    · rintro ⟨j, _, h1, h2⟩
      have h1 : j < K.length := by omega
      rw [decide_eq_true_eq, K_get h1] at h2
      rw [← h2]; exact List.getElem_mem h1
    · intro h
      obtain ⟨j, hj, rfl⟩ := List.getElem_of_mem h
      exact ⟨j, Nat.zero_le _, by omega, decide_eq_true (K_get hj)⟩
  rw [← this]; omega
theorem idxK_at {K : List (List UInt8)} (hn : K.Nodup) {i : Nat} (h : i < K.length) : idxK K (K.getD i []) = i := by
  unfold idxK
  refine idxF_at.2 ⟨Nat.zero_le _, by omega, decide_eq_true rfl, fun j _ hj => decide_eq_false ?_⟩
  rw [K_get h, K_get (by omega)]
  intro e
  have := (List.getElem_inj hn).1 e
  omega
theorem nodup_of {K : List (List UInt8)} (h : ∀ i, i < K.length → idxK K (K.getD i []) = i) : K.Nodup := by
  rw [List.nodup_iff_pairwise_ne, List.pairwise_iff_getElem]
  intro i j hi hj hij e
  have := h j hj
  unfold idxK at this
  have := (idxF_at.1 this).2.2.2 i (Nat.zero_le _) hij
  rw [decide_eq_false_iff_not, K_get hi, K_get hj] at this
  exact this e

/-! ### reading what is written -/
def wB (l : List UInt8) : ByteArray := ⟨l.toArray⟩
def levW (l : List ByteArray) : List (List ByteArray) := l.map fun s => [wB wLevel, s]
def flowW (lev : List ByteArray) (ps : List (Nat × Nat)) : List (List ByteArray) := ps.map fun c => [wB wFlow, lev.getD c.1 .empty, lev.getD c.2 .empty]
def chanW (k : List UInt8) (lev : List ByteArray) (l : List Chan) : List (List ByteArray) := l.map fun c => [wB k, c.1, lev.getD c.2.toNat .empty]
def depW (d : Int) : List (List ByteArray) := [[wB wDepth, showV d]]
abbrev NL (l : List ByteArray) : Prop := (l.map tl).Nodup
abbrev NC (l : List Chan) : Prop := (l.map fun c => tl c.1).Nodup
theorem okW_name {k : List UInt8} {s : ByteArray} (hk : k ≠ wDepth) (h : nameB s = true) : okW (wB k) s = true := by
  unfold okW
  rw [show (wB k).data.toList = k by simp [wB], decide_eq_false hk, h]; simp
theorem lev_get {l : List ByteArray} (h : ∀ s ∈ l, nameB s = true) {i : Nat} (hi : i < l.length) : nameB (l.getD i .empty) = true := h _ (by rw [List.getD_eq_getElem?_getD, List.getElem?_eq_getElem hi]; exact List.getElem_mem hi)
theorem idxS_at {l : List ByteArray} (hn : NL l) {i : Nat} (hi : i < l.length) : idxS l (l.getD i .empty) = i := by
  rw [idxS_K, ← getK tl .empty l rfl i]
  exact idxK_at hn (by rw [List.length_map]; exact hi)
theorem reads_lev : ∀ (l acc : List ByteArray) (r : Rdr), r.lev = acc → NL (acc ++ l) → (acc ++ l).length ≤ 64 → (∀ s ∈ l, nameB s = true) → readsF (levW l) r = some { r with lev := acc ++ l }
  | [], acc, r, h, _, _, _ => by subst h; simp [levW, readsF]
  | s :: l, acc, r, h, hn, hl, hN => by
    have e1 : readR r [wB wLevel, s] = ({ r with lev := acc ++ [s] }, 0) := by
      have hx : idxS acc s < 0 := by
        rw [idxS_K, idxK_lt]
        intro hm
        rw [NL, List.map_append, List.nodup_append] at hn
        exact hn.2.2 _ hm _ (List.mem_map_of_mem (.head _)) rfl
      unfold readR
      rw [if_pos (show (w_ [wB wLevel, s] 0).data.toList = wLevel from rfl)]
      unfold pickR
      rw [if_pos ⟨rfl, by show (okW (wB wLevel) s && true) = true; rw [okW_name (by decide) (hN s (.head _))]; rfl⟩]
      unfold levelR
      subst h
      rw [show w_ [wB wLevel, s].tail 0 = s from rfl, if_neg (by omega), if_neg (by simp at hl; omega)]
    rw [show levW (s :: l) = [wB wLevel, s] :: levW l from rfl, readsF, e1, if_pos rfl]
    have := reads_lev l (acc ++ [s]) { r with lev := acc ++ [s] } rfl (by simpa using hn) (by simpa using hl) fun x hx => hN x (.tail _ hx)
    rw [this]; simp
theorem reads_flow (lev : List ByteArray) (hn : NL lev) (hN : ∀ s ∈ lev, nameB s = true) : ∀ (ps : List (Nat × Nat)) (r : Rdr), r.lev = lev → (∀ p ∈ ps, p.1 < lev.length ∧ p.2 < lev.length) → readsF (flowW lev ps) r = some { r with flows := r.flows ++ ps }
  | [], r, _, _ => by simp [flowW, readsF]
  | (a, b) :: ps, r, h, hp => by
    obtain ⟨ha, hb⟩ := hp (a, b) (.head _)
    have e1 : readR r [wB wFlow, lev.getD a .empty, lev.getD b .empty] = ({ r with flows := r.flows ++ [(a, b)] }, 0) := by
      unfold readR
      rw [if_neg (show ¬ (w_ [wB wFlow, lev.getD a .empty, lev.getD b .empty] 0).data.toList = wLevel from (by decide : ¬ wFlow = wLevel)), if_pos (show (w_ [wB wFlow, lev.getD a .empty, lev.getD b .empty] 0).data.toList = wFlow from rfl)]
      unfold pickR
      rw [if_pos ⟨rfl, by show (okW (wB wFlow) (lev.getD a .empty) && (okW (wB wFlow) (lev.getD b .empty) && true)) = true; rw [okW_name (by decide) (lev_get hN ha), okW_name (by decide) (lev_get hN hb)]; rfl⟩]
      unfold flowR
      subst h
      rw [show w_ [wB wFlow, r.lev.getD a .empty, r.lev.getD b .empty].tail 0 = r.lev.getD a .empty from rfl, show w_ [wB wFlow, r.lev.getD a .empty, r.lev.getD b .empty].tail 1 = r.lev.getD b .empty from rfl, idxS_at hn ha, idxS_at hn hb, if_pos ⟨by omega, by omega⟩]
      rfl
    rw [show flowW lev ((a, b) :: ps) = [wB wFlow, lev.getD a .empty, lev.getD b .empty] :: flowW lev ps from rfl, readsF, e1, if_pos rfl]
    have := reads_flow lev hn hN ps { r with flows := r.flows ++ [(a, b)] } h fun p hq => hp p (.tail _ hq)
    refine Eq.trans this ?_
    simp
def OKC (lev : List ByteArray) (c : Chan) : Prop := nameB c.1 = true ∧ 0 ≤ c.2 ∧ c.2 < lev.length
theorem chan_read {lev : List ByteArray} (hn : NL lev) {acc : List Chan} {c : Chan} {l : List Chan} (hc : OKC lev c) (hN : NC (acc ++ c :: l)) (hl : (acc ++ c :: l).length ≤ 32) : chanE lev acc [c.1, lev.getD c.2.toNat .empty] = 0 ∧ chanL lev acc [c.1, lev.getD c.2.toNat .empty] = acc ++ [c] := by
  obtain ⟨h1, h2, h3⟩ := hc
  have hx : idxC acc c.1 < 0 := by
    rw [idxC_K, idxK_lt]
    intro hm
    rw [NC, List.map_append, List.nodup_append] at hN
    exact hN.2.2 _ hm _ (List.mem_map_of_mem (f := fun c : Chan => tl c.1) (.head _)) rfl
  have hi : idxS lev (lev.getD c.2.toNat .empty) = c.2 := by
    rw [idxS_at hn (by omega)]; omega
  have e : chanE lev acc [c.1, lev.getD c.2.toNat .empty] = 0 := by
    unfold chanE
    rw [show w_ [c.1, lev.getD c.2.toNat .empty] 0 = c.1 from rfl, show w_ [c.1, lev.getD c.2.toNat .empty] 1 = lev.getD c.2.toNat .empty from rfl, if_neg (by omega), hi, if_neg (by omega), if_neg (by simp at hl; omega)]
  refine ⟨e, ?_⟩
  unfold chanL
  rw [e, if_pos rfl, show w_ [c.1, lev.getD c.2.toNat .empty] 1 = lev.getD c.2.toNat .empty from rfl, hi]; rfl
theorem reads_in (lev : List ByteArray) (hn : NL lev) (hN : ∀ s ∈ lev, nameB s = true) : ∀ (l acc : List Chan) (r : Rdr), r.lev = lev → r.ins = acc → NC (acc ++ l) → (acc ++ l).length ≤ 32 → (∀ c ∈ l, OKC lev c) → readsF (chanW wInput lev l) r = some { r with ins := acc ++ l }
  | [], acc, r, _, h, _, _, _ => by subst h; simp [chanW, readsF]
  | c :: l, acc, r, h, h', hC, hl, hO => by
    obtain ⟨q1, q2⟩ := chan_read hn (hO c (.head _)) hC hl
    obtain ⟨o1, o2, o3⟩ := hO c (.head _)
    have e1 : readR r [wB wInput, c.1, lev.getD c.2.toNat .empty] = ({ r with ins := acc ++ [c] }, 0) := by
      unfold readR
      rw [if_neg (show ¬ (w_ [wB wInput, c.1, lev.getD c.2.toNat .empty] 0).data.toList = wLevel from (by decide : ¬ wInput = wLevel)), if_neg (show ¬ (w_ [wB wInput, c.1, lev.getD c.2.toNat .empty] 0).data.toList = wFlow from (by decide : ¬ wInput = wFlow)), if_pos (show (w_ [wB wInput, c.1, lev.getD c.2.toNat .empty] 0).data.toList = wInput from rfl)]
      unfold pickR
      rw [if_pos ⟨rfl, by show (okW (wB wInput) c.1 && (okW (wB wInput) (lev.getD c.2.toNat .empty) && true)) = true; rw [okW_name (by decide) o1, okW_name (by decide) (lev_get hN (by omega))]; rfl⟩]
      subst h'
      rw [h, show [wB wInput, c.1, lev.getD c.2.toNat .empty].tail = [c.1, lev.getD c.2.toNat .empty] from rfl, q1, q2]
    rw [show chanW wInput lev (c :: l) = [wB wInput, c.1, lev.getD c.2.toNat .empty] :: chanW wInput lev l from rfl, readsF, e1, if_pos rfl]
    have := reads_in lev hn hN l (acc ++ [c]) { r with ins := acc ++ [c] } h rfl (by simpa using hC) (by simpa using hl) fun x hx => hO x (.tail _ hx)
    refine Eq.trans this ?_
    simp
theorem reads_out (lev : List ByteArray) (hn : NL lev) (hN : ∀ s ∈ lev, nameB s = true) : ∀ (l acc : List Chan) (r : Rdr), r.lev = lev → r.outs = acc → NC (acc ++ l) → (acc ++ l).length ≤ 32 → (∀ c ∈ l, OKC lev c) → readsF (chanW wOutput lev l) r = some { r with outs := acc ++ l }
  | [], acc, r, _, h, _, _, _ => by subst h; simp [chanW, readsF]
  | c :: l, acc, r, h, h', hC, hl, hO => by
    obtain ⟨q1, q2⟩ := chan_read hn (hO c (.head _)) hC hl
    obtain ⟨o1, o2, o3⟩ := hO c (.head _)
    have e1 : readR r [wB wOutput, c.1, lev.getD c.2.toNat .empty] = ({ r with outs := acc ++ [c] }, 0) := by
      unfold readR
      rw [if_neg (show ¬ (w_ [wB wOutput, c.1, lev.getD c.2.toNat .empty] 0).data.toList = wLevel from (by decide : ¬ wOutput = wLevel)), if_neg (show ¬ (w_ [wB wOutput, c.1, lev.getD c.2.toNat .empty] 0).data.toList = wFlow from (by decide : ¬ wOutput = wFlow)), if_neg (show ¬ (w_ [wB wOutput, c.1, lev.getD c.2.toNat .empty] 0).data.toList = wInput from (by decide : ¬ wOutput = wInput)), if_pos (show (w_ [wB wOutput, c.1, lev.getD c.2.toNat .empty] 0).data.toList = wOutput from rfl)]
      unfold pickR
      rw [if_pos ⟨rfl, by show (okW (wB wOutput) c.1 && (okW (wB wOutput) (lev.getD c.2.toNat .empty) && true)) = true; rw [okW_name (by decide) o1, okW_name (by decide) (lev_get hN (by omega))]; rfl⟩]
      subst h'
      rw [h, show [wB wOutput, c.1, lev.getD c.2.toNat .empty].tail = [c.1, lev.getD c.2.toNat .empty] from rfl, q1, q2]
    rw [show chanW wOutput lev (c :: l) = [wB wOutput, c.1, lev.getD c.2.toNat .empty] :: chanW wOutput lev l from rfl, readsF, e1, if_pos rfl]
    have := reads_out lev hn hN l (acc ++ [c]) { r with outs := acc ++ [c] } h rfl (by simpa using hC) (by simpa using hl) fun x hx => hO x (.tail _ hx)
    refine Eq.trans this ?_
    simp
theorem show_ok : ∀ k : Fin 65, 1 ≤ k.1 → numV (showV (k.1 : Int)) = ((k.1 : Int), true) ∧ tl (showV (k.1 : Int)) ≠ [] ∧ (∀ b ∈ tl (showV (k.1 : Int)), b ≠ 10 ∧ blkB b = false) ∧ okB (tl (showV (k.1 : Int))) = true ∧ (showV (k.1 : Int)).size ≤ 2 := by decide +kernel
theorem depth_ok {d : Int} (h1 : 1 ≤ d) (h2 : d ≤ 64) : numV (showV d) = (d, true) ∧ GW (showV d) ∧ (showV d).size ≤ 2 := by
  obtain ⟨k, rfl⟩ : ∃ k : Nat, d = k := ⟨d.toNat, by omega⟩
  obtain ⟨a, b, c, e, f⟩ := show_ok ⟨k, by omega⟩ (by show 1 ≤ k; omega)
  exact ⟨a, ⟨b, c, e⟩, f⟩
theorem reads_dep {d : Int} (h1 : 1 ≤ d) (h2 : d ≤ 64) (r : Rdr) (h0 : r.depth = 0) : readsF (depW d) r = some { r with depth := d } := by
  have hn := (depth_ok h1 h2).1
  have e1 : readR r [wB wDepth, showV d] = ({ r with depth := d }, 0) := by
    unfold readR
    rw [if_neg (show ¬ (w_ [wB wDepth, showV d] 0).data.toList = wLevel from (by decide : ¬ wDepth = wLevel)), if_neg (show ¬ (w_ [wB wDepth, showV d] 0).data.toList = wFlow from (by decide : ¬ wDepth = wFlow)), if_neg (show ¬ (w_ [wB wDepth, showV d] 0).data.toList = wInput from (by decide : ¬ wDepth = wInput)), if_neg (show ¬ (w_ [wB wDepth, showV d] 0).data.toList = wOutput from (by decide : ¬ wDepth = wOutput)), if_pos (show (w_ [wB wDepth, showV d] 0).data.toList = wDepth from rfl)]
    unfold pickR
    rw [if_pos ⟨rfl, by
      show (okW (wB wDepth) (showV d) && true) = true
      unfold okW
      rw [show (wB wDepth).data.toList = wDepth from rfl, hn]; simp⟩]
    unfold depthR
    rw [show w_ [wB wDepth, showV d].tail 0 = showV d from rfl, hn, h0, if_neg (by omega), if_neg (by show ¬ (d < 1 ∨ 64 < d); omega)]
  rw [depW, readsF, e1, if_pos rfl, readsF]

/-! ### policies that may be -/
structure PolR (p : Pol) : Prop where
  up : rightM p.up = true
  len : p.up.length = p.lev.length
  nl : NL p.lev
  names : ∀ s ∈ p.lev, nameB s = true
  ni : NC p.ins
  no : NC p.outs
  il : p.ins.length ≤ 32
  ol : p.outs.length ≤ 32
  iok : ∀ c ∈ p.ins, OKC p.lev c
  ook : ∀ c ∈ p.outs, OKC p.lev c
  depth : 1 ≤ p.depth ∧ p.depth ≤ 64
theorem chans_iff (lev : List ByteArray) (l : List Chan) : chansB lev.length l = true ↔ l.length ≤ 32 ∧ NC l ∧ ∀ c ∈ l, OKC lev c := by
  unfold chansB
  rw [Bool.and_eq_true, decide_eq_true_eq, allF_iff]
  have hm : ∀ {i}, i < l.length → l.getD i chan0 ∈ l := fun {i} hi => by rw [List.getD_eq_getElem?_getD, List.getElem?_eq_getElem hi]; exact List.getElem_mem hi
  have hk : ∀ i, (l.map fun c => tl c.1).getD i [] = tl (l.getD i chan0).1 := getK (fun c : Chan => tl c.1) chan0 l rfl
  refine and_congr Iff.rfl ⟨fun h => ?_, fun ⟨h1, h2⟩ i _ hi => ?_⟩
  · have each : ∀ i, i < l.length → nameB (l.getD i chan0).1 = true ∧ idxC l (l.getD i chan0).1 = (i : Int) ∧ 0 ≤ (l.getD i chan0).2 ∧ (l.getD i chan0).2 < (lev.length : Int) := fun i hi => by
      have := h i (Nat.zero_le _) (by omega)
      unfold chnB at this
      simp only [Bool.and_eq_true, decide_eq_true_eq] at this
      exact ⟨this.1.1.1, this.1.1.2, this.1.2, this.2⟩
    refine ⟨nodup_of fun i hi => ?_, fun c hc => ?_⟩
    · rw [List.length_map] at hi
      rw [hk, ← idxC_K]; exact (each i hi).2.1
    · obtain ⟨i, hi, rfl⟩ := List.getElem_of_mem hc
      have := each i hi
      rw [List.getD_eq_getElem?_getD, List.getElem?_eq_getElem hi] at this
      exact ⟨this.1, this.2.2.1, this.2.2.2⟩
  · have hi : i < l.length := by omega
    obtain ⟨o1, o2, o3⟩ := h2 _ (hm hi)
    unfold chnB
    have : idxC l (l.getD i chan0).1 = i := by
      rw [idxC_K, ← hk]; exact idxK_at h1 (by rw [List.length_map]; exact hi)
    rw [o1, decide_eq_true this, decide_eq_true o2, decide_eq_true o3]; rfl
theorem right_iff (p : Pol) : rightP p = true ↔ PolR p := by
  unfold rightP headB
  have hk : ∀ i, (p.lev.map tl).getD i [] = tl (p.lev.getD i .empty) := getK tl .empty p.lev rfl
  simp only [Bool.and_eq_true, decide_eq_true_eq, chans_iff, allF_iff]
  constructor
  · rintro ⟨⟨⟨⟨⟨h1, h2⟩, h3⟩, h4⟩, h5⟩, h6, h7⟩
    have each : ∀ i, i < p.lev.length → nameB (p.lev.getD i .empty) = true ∧ idxS p.lev (p.lev.getD i .empty) = (i : Int) := fun i hi => by
      have := h5 i (Nat.zero_le _) (by omega)
      unfold levB at this
      simp only [Bool.and_eq_true, decide_eq_true_eq] at this
      exact this
    refine ⟨h2, h1.symm, nodup_of fun i hi => ?_, fun s hs => ?_, h6.2.1, h7.2.1, h6.1, h7.1, h6.2.2, h7.2.2, h3, h4⟩
    · rw [List.length_map] at hi
      rw [hk, ← idxS_K]; exact (each i hi).2
    · obtain ⟨i, hi, rfl⟩ := List.getElem_of_mem hs
      have := (each i hi).1
      rwa [List.getD_eq_getElem?_getD, List.getElem?_eq_getElem hi] at this
  · intro h
    refine ⟨⟨⟨⟨⟨h.len.symm, h.up⟩, h.depth.1⟩, h.depth.2⟩, fun i _ hi => ?_⟩, ⟨h.il, h.ni, h.iok⟩, h.ol, h.no, h.ook⟩
    have hi : i < p.lev.length := by omega
    unfold levB
    rw [lev_get h.names hi, decide_eq_true (idxS_at h.nl hi)]; rfl

/-- A policy's lines. -/
def printW (p : Pol) : List (List ByteArray) := levW p.lev ++ (flowW p.lev (coversM p.up) ++ (chanW wInput p.lev p.ins ++ (chanW wOutput p.lev p.outs ++ depW p.depth)))
/-- The same, but for levels the other way round. -/
def turnW (p : Pol) : List (List ByteArray) := levW p.lev ++ (depW p.depth ++ (chanW wOutput p.lev p.outs.reverse ++ (chanW wInput p.lev p.ins.reverse ++ flowW p.lev (coversM p.up).reverse)))

theorem textL_app (A B : List (List ByteArray)) : textL (A ++ B) = textL A ++ textL B := by simp [textL]
theorem textL_len {k : Nat} : ∀ {W : List (List ByteArray)}, (∀ ws ∈ W, (joinL ws).length + 1 ≤ k) → (textL W).length ≤ k * W.length
  | [], _ => by simp [textL]
  | ws :: W, h => by
    have e : textL (ws :: W) = joinL ws ++ 10 :: textL W := by simp [textL]
    have := textL_len fun x hx => h x (.tail _ hx)
    have := h ws (.head _)
    rw [e, List.length_append, List.length_cons, List.length_cons, Nat.mul_add]
    omega
theorem gw_key : (∀ k ∈ [wLevel, wFlow, wInput, wOutput, wDepth], (tl (wB k) ≠ [] ∧ (∀ b ∈ tl (wB k), b ≠ 10 ∧ blkB b = false) ∧ okB (tl (wB k)) = true) ∧ sb (wB k) 0 ≠ 35) := by decide +kernel
theorem gl_of {k : List UInt8} (hk : k ∈ [wLevel, wFlow, wInput, wOutput, wDepth]) {ws : List ByteArray} (h : ∀ w ∈ ws, GW w) : GL (wB k :: ws) := by
  obtain ⟨⟨a, b, c⟩, d⟩ := gw_key k hk
  refine ⟨_, _, rfl, fun x hx => ?_, d⟩
  rcases List.mem_cons.1 hx with rfl | hx
  · exact ⟨a, b, c⟩
  · exact h x hx
theorem parts {p : Pol} (h : PolR p) : (∀ ws ∈ levW p.lev, GL ws ∧ (joinL ws).length + 1 ≤ 55) ∧ (∀ ws ∈ flowW p.lev (coversM p.up), GL ws ∧ (joinL ws).length + 1 ≤ 103) ∧ (∀ ws ∈ chanW wInput p.lev p.ins, GL ws ∧ (joinL ws).length + 1 ≤ 104) ∧ (∀ ws ∈ chanW wOutput p.lev p.outs, GL ws ∧ (joinL ws).length + 1 ≤ 105) ∧ (∀ ws ∈ depW p.depth, GL ws ∧ (joinL ws).length + 1 ≤ 9) := by
  have ho : orderM p.up = true := by have := h.up; unfold rightM at this; rw [Bool.and_eq_true] at this; exact this.1
  have two : ∀ (k : List UInt8) (n : Nat), k ∈ [wLevel, wFlow, wInput, wOutput, wDepth] → (wB k).size = n → ∀ a b : ByteArray, nameB a = true → nameB b = true → GL [wB k, a, b] ∧ (joinL [wB k, a, b]).length + 1 ≤ n + 99 := fun k n hk hn a b ha hb => by
    have qa := gw_name ha
    have qb := gw_name hb
    refine ⟨gl_of hk fun w hw => ?_, ?_⟩
    · simp at hw
      rcases hw with rfl | rfl
      · exact qa.1
      · exact qb.1
    · simp only [joinL, List.length_append, List.length_cons, size_l]; omega
  refine ⟨fun ws hws => ?_, fun ws hws => ?_, fun ws hws => ?_, fun ws hws => ?_, fun ws hws => ?_⟩
  · obtain ⟨s, hs, rfl⟩ := List.mem_map.1 hws
    have q := gw_name (h.names s hs)
    refine ⟨gl_of (by decide) fun w hw => by simp at hw; subst hw; exact q.1, ?_⟩
    simp only [joinL, List.length_append, List.length_cons, size_l]
    have : (wB wLevel).size = 5 := by decide
    omega
  · obtain ⟨c, hc, rfl⟩ := List.mem_map.1 hws
    obtain ⟨c1, c2⟩ := covers_lt (ord_of ho) c hc
    rw [h.len] at c1 c2
    exact two wFlow 4 (by decide) (by decide) _ _ (lev_get h.names c1) (lev_get h.names c2)
  · obtain ⟨c, hc, rfl⟩ := List.mem_map.1 hws
    obtain ⟨c1, c2, c3⟩ := h.iok c hc
    exact two wInput 5 (by decide) (by decide) _ _ c1 (lev_get h.names (by omega))
  · obtain ⟨c, hc, rfl⟩ := List.mem_map.1 hws
    obtain ⟨c1, c2, c3⟩ := h.ook c hc
    exact two wOutput 6 (by decide) (by decide) _ _ c1 (lev_get h.names (by omega))
  · obtain rfl := List.mem_singleton.1 hws
    obtain ⟨_, q1, q2⟩ := depth_ok h.depth.1 h.depth.2
    refine ⟨gl_of (by decide) fun w hw => by simp at hw; subst hw; exact q1, ?_⟩
    simp only [joinL, List.length_append, List.length_cons, size_l]
    have : (wB wDepth).size = 5 := by decide
    omega
theorem flowW_rev (lev : List ByteArray) (ps : List (Nat × Nat)) : flowW lev ps.reverse = (flowW lev ps).reverse := by simp [flowW]
theorem chanW_rev (k : List UInt8) (lev : List ByteArray) (l : List Chan) : chanW k lev l.reverse = (chanW k lev l).reverse := by simp [chanW]
theorem print_ok {p : Pol} (h : PolR p) : (∀ ws ∈ printW p, GL ws) ∧ (textL (printW p)).length ≤ 65536 ∧ (∀ ws ∈ turnW p, GL ws) ∧ (textL (turnW p)).length ≤ 65536 := by
  obtain ⟨a, b, c, d, e⟩ := parts h
  have ho : orderM p.up = true := by have := h.up; unfold rightM at this; rw [Bool.and_eq_true] at this; exact this.1
  have hl := (order_len ho).2
  have hf := covers_few h.up
  have := h.len
  have := h.il
  have := h.ol
  have a2 := textL_len fun ws hws => (a ws hws).2
  have b2 := textL_len fun ws hws => (b ws hws).2
  have c2 := textL_len fun ws hws => (c ws hws).2
  have d2 := textL_len fun ws hws => (d ws hws).2
  have e2 := textL_len fun ws hws => (e ws hws).2
  have b3 := textL_len (W := (flowW p.lev (coversM p.up)).reverse) fun ws hws => (b ws (List.mem_reverse.1 hws)).2
  have c3 := textL_len (W := (chanW wInput p.lev p.ins).reverse) fun ws hws => (c ws (List.mem_reverse.1 hws)).2
  have d3 := textL_len (W := (chanW wOutput p.lev p.outs).reverse) fun ws hws => (d ws (List.mem_reverse.1 hws)).2
  rw [List.length_reverse] at b3 c3 d3
  rw [show (levW p.lev).length = p.lev.length by simp [levW]] at a2
  rw [show (flowW p.lev (coversM p.up)).length = (coversM p.up).length by simp [flowW]] at b2 b3
  rw [show (chanW wInput p.lev p.ins).length = p.ins.length by simp [chanW]] at c2 c3
  rw [show (chanW wOutput p.lev p.outs).length = p.outs.length by simp [chanW]] at d2 d3
  rw [show (depW p.depth).length = 1 from rfl] at e2
  refine ⟨fun ws hws => ?_, ?_, fun ws hws => ?_, ?_⟩
  · unfold printW at hws
    simp only [List.mem_append] at hws
    rcases hws with q | q | q | q | q
    · exact (a ws q).1
    · exact (b ws q).1
    · exact (c ws q).1
    · exact (d ws q).1
    · exact (e ws q).1
  · unfold printW
    simp only [textL_app, List.length_append]
    omega
  · unfold turnW at hws
    simp only [List.mem_append, flowW_rev, chanW_rev, List.mem_reverse] at hws
    rcases hws with q | q | q | q | q
    · exact (a ws q).1
    · exact (e ws q).1
    · exact (d ws q).1
    · exact (c ws q).1
    · exact (b ws q).1
  · unfold turnW
    simp only [textL_app, List.length_append, flowW_rev, chanW_rev]
    omega
theorem closes {p : Pol} (h : PolR p) {ps : List (Nat × Nat)} (hps : ∀ q, q ∈ ps ↔ q ∈ coversM p.up) (n : Int) (r : Rdr) (h1 : r.lev = p.lev) (h2 : r.flows = ps) (h3 : r.depth = p.depth) : endR n r = (⟨p.lev, p.up, r.ins, r.outs, p.depth⟩, 0, 0) := by
  have ho : orderM p.up = true := by have := h.up; unfold rightM at this; rw [Bool.and_eq_true] at this; exact this.1
  have hl := (order_len ho).1
  have hd := h.depth
  have hlen := h.len
  unfold endR
  rw [h1, h2, h3, ← hlen, close_covers (ord_of ho) hps, if_neg (by omega), if_pos h.up]
theorem parse_print {p : Pol} (h : PolR p) {s : ByteArray} (hs : tl s = textL (printW p)) : parseP s = (p, 0, 0) := by
  obtain ⟨g1, g2, _, _⟩ := print_ok h
  have ho : orderM p.up = true := by have := h.up; unfold rightM at this; rw [Bool.and_eq_true] at this; exact this.1
  have hl := (order_len ho).2
  have hlen := h.len
  have hcl : ∀ q ∈ coversM p.up, q.1 < p.lev.length ∧ q.2 < p.lev.length := fun q hq => by rw [← hlen]; exact covers_lt (ord_of ho) q hq
  have hr : readsF (printW p) rdr0 = some ⟨p.lev, p.ins, p.outs, p.depth, coversM p.up⟩ := by
    unfold printW
    rw [reads_app _ _ _ _ (reads_lev p.lev [] rdr0 rfl h.nl (by simp; omega) h.names), reads_app _ _ _ _ (reads_flow p.lev h.nl h.names (coversM p.up) _ rfl hcl), reads_app _ _ _ _ (reads_in p.lev h.nl h.names p.ins [] _ rfl rfl h.ni h.il h.iok), reads_app _ _ _ _ (reads_out p.lev h.nl h.names p.outs [] _ rfl rfl h.no h.ol h.ook), reads_dep h.depth.1 h.depth.2 _ rfl]
    rfl
  have hz : s.size ≤ 65536 := by rw [← size_l, show s.data.toList = _ from hs]; exact g2
  rw [parse_of_reads hs hz g1 hr, closes h (fun q => Iff.rfl) _ _ rfl rfl rfl]
theorem nd_rev {α : Type} {l : List α} (h : l.Nodup) : l.reverse.Nodup := List.pairwise_reverse.2 (List.Pairwise.imp (fun h => Ne.symm h) h)
theorem parse_turn {p : Pol} (h : PolR p) {s : ByteArray} (hs : tl s = textL (turnW p)) : parseP s = (⟨p.lev, p.up, p.ins.reverse, p.outs.reverse, p.depth⟩, 0, 0) := by
  obtain ⟨_, _, g1, g2⟩ := print_ok h
  have ho : orderM p.up = true := by have := h.up; unfold rightM at this; rw [Bool.and_eq_true] at this; exact this.1
  have hl := (order_len ho).2
  have hlen := h.len
  have hcl : ∀ q ∈ (coversM p.up).reverse, q.1 < p.lev.length ∧ q.2 < p.lev.length := fun q hq => by rw [← hlen]; exact covers_lt (ord_of ho) q (List.mem_reverse.1 hq)
  have ni : NC p.ins.reverse := by rw [NC, List.map_reverse]; exact nd_rev h.ni
  have no : NC p.outs.reverse := by rw [NC, List.map_reverse]; exact nd_rev h.no
  have hr : readsF (turnW p) rdr0 = some ⟨p.lev, p.ins.reverse, p.outs.reverse, p.depth, (coversM p.up).reverse⟩ := by
    unfold turnW
    rw [reads_app _ _ _ _ (reads_lev p.lev [] rdr0 rfl h.nl (by simp; omega) h.names), reads_app _ _ _ _ (reads_dep h.depth.1 h.depth.2 _ rfl),
      reads_app _ _ _ _ (reads_out p.lev h.nl h.names p.outs.reverse [] _ rfl rfl no (by simpa using h.ol) fun c hc => h.ook c (List.mem_reverse.1 hc)), reads_app _ _ _ _ (reads_in p.lev h.nl h.names p.ins.reverse [] _ rfl rfl ni (by simpa using h.il) fun c hc => h.iok c (List.mem_reverse.1 hc)), reads_flow p.lev h.nl h.names _ _ rfl hcl]
    rfl
  have hz : s.size ≤ 65536 := by rw [← size_l, show s.data.toList = _ from hs]; exact g2
  rw [parse_of_reads hs hz g1 hr, closes h (fun q => List.mem_reverse) _ _ rfl rfl rfl]

/-! ### what is read may be -/
structure RInv (r : Rdr) : Prop where
  nl : NL r.lev
  names : ∀ s ∈ r.lev, nameB s = true
  ni : NC r.ins
  no : NC r.outs
  iok : ∀ c ∈ r.ins, OKC r.lev c
  ook : ∀ c ∈ r.outs, OKC r.lev c
  depth : r.depth = 0 ∨ (1 ≤ r.depth ∧ r.depth ≤ 64)
theorem allW_name {w : List ByteArray} (h : allW w = true) (hk : (w_ w 0).data.toList ≠ wDepth) {j : Nat} (hj : j < w.tail.length) : nameB (w_ w.tail j) = true := by
  unfold allW at h
  rw [List.all_eq_true] at h
  have := h (w_ w.tail j) (by unfold w_; rw [List.getD_eq_getElem?_getD, List.getElem?_eq_getElem hj]; exact List.getElem_mem hj)
  unfold okW at this
  rw [decide_eq_false hk] at this
  simpa using this
theorem nd_snoc {α : Type} {K : List α} {k : α} (h : K.Nodup) (hk : k ∉ K) : (K ++ [k]).Nodup := by
  rw [List.nodup_append]
  exact ⟨h, by simp, fun a ha b hb => by rw [List.mem_singleton.1 hb]; exact fun e => hk (e ▸ ha)⟩
theorem rinv_chan {lev : List ByteArray} {l : List Chan} {w : List ByteArray} (hN : nameB (w_ w 0) = true) (hn : NC l) (hO : ∀ c ∈ l, OKC lev c) : NC (chanL lev l w) ∧ ∀ c ∈ chanL lev l w, OKC lev c := by
  unfold chanL
  split
  · rename_i h0
    unfold chanE at h0
    split at h0
    · omega
    · rename_i h1
      split at h0
      · omega
      · rename_i h2
        refine ⟨?_, fun c hc => ?_⟩
        · rw [NC, List.map_append]
          refine nd_snoc hn ?_
          have : idxC l (w_ w 0) < 0 := by omega
          rwa [idxC_K, idxK_lt] at this
        · rcases List.mem_append.1 hc with hc | hc
          · exact hO c hc
          · rw [List.mem_singleton.1 hc]
            have := idxS_lt (l := lev) (s := w_ w 1) (by omega)
            exact ⟨hN, by show 0 ≤ idxS _ _; omega, by show idxS _ _ < _; omega⟩
  · exact ⟨hn, hO⟩
theorem rinv_read {r : Rdr} (h : RInv r) (w : List ByteArray) : RInv (readR r w).1 := by
  have pick : ∀ {k d}, (w.length = k + 1 → allW w = true → RInv d.1) → RInv (pickR r w k d).1 := fun {k d} hd => by
    unfold pickR; split
    · rename_i hc; exact hd hc.1 hc.2
    · exact h
  have tl_len : ∀ {k}, w.length = k + 1 → w.tail.length = k := fun {k} e => by rw [List.length_tail]; omega
  unfold readR
  split
  · rename_i e
    refine pick fun hl hw => ?_
    unfold levelR
    split
    · exact h
    · rename_i h1
      split
      · exact h
      · refine ⟨?_, fun s hs => ?_, h.ni, h.no, fun c hc => ?_, fun c hc => ?_, h.depth⟩
        · show NL (r.lev ++ [_])
          rw [NL, List.map_append]
          refine nd_snoc h.nl ?_
          have : idxS r.lev (w_ w.tail 0) < 0 := by omega
          rwa [idxS_K, idxK_lt] at this
        · rcases List.mem_append.1 hs with hs | hs
          · exact h.names s hs
          · rw [List.mem_singleton.1 hs]
            exact allW_name hw (by rw [e]; decide) (by rw [tl_len hl]; omega)
        · have := h.iok c hc
          exact ⟨this.1, this.2.1, by have := this.2.2; show c.2 < ((r.lev ++ [_]).length : Int); simp; omega⟩
        · have := h.ook c hc
          exact ⟨this.1, this.2.1, by have := this.2.2; show c.2 < ((r.lev ++ [_]).length : Int); simp; omega⟩
  split
  · refine pick fun _ _ => ?_
    unfold flowR
    split
    · exact ⟨h.nl, h.names, h.ni, h.no, h.iok, h.ook, h.depth⟩
    · exact h
  split
  · rename_i e
    refine pick fun hl hw => ?_
    have := rinv_chan (lev := r.lev) (allW_name hw (by rw [e]; decide) (by rw [tl_len hl]; omega)) h.ni h.iok
    exact ⟨h.nl, h.names, this.1, h.no, this.2, h.ook, h.depth⟩
  split
  · rename_i e
    refine pick fun hl hw => ?_
    have := rinv_chan (lev := r.lev) (allW_name hw (by rw [e]; decide) (by rw [tl_len hl]; omega)) h.no h.ook
    exact ⟨h.nl, h.names, h.ni, this.1, h.iok, this.2, h.depth⟩
  split
  · refine pick fun _ _ => ?_
    unfold depthR
    split
    · exact h
    · split
      · exact h
      · exact ⟨h.nl, h.names, h.ni, h.no, h.iok, h.ook, .inr (by show 1 ≤ (numV _).1 ∧ (numV _).1 ≤ 64; omega)⟩
  · exact h
theorem lines_keep : ∀ (ls : List ByteArray) (at_ : Int) (r r' : Rdr) (n : Nat), RInv r → Kept r n → n + ls.length ≤ 100000 → linesF ls at_ r = .inr r' → RInv r' ∧ ∃ k, Kept r' k
  | [], at_, r, r', n, h, hk, _, e => by cases e; exact ⟨h, n, hk⟩
  | l :: ls, at_, r, r', n, h, hk, hn, e => by
    rw [List.length_cons] at hn
    rw [linesF] at e
    split at e
    · split at e
      · cases e
      · exact lines_keep ls _ _ r' (n + 1) (rinv_read h _) (kept_read hk (by omega) _) (by omega) e
    · exact lines_keep ls _ _ r' n h hk (by omega) e
theorem parse_right {s : ByteArray} (h : (parseP s).2.2 = 0) : PolR (parseP s).1 := by
  revert h
  unfold parseP
  split
  · intro h; cases h
  · rename_i hz
    split
    · intro h; cases h
    · split
      · rename_i at_ e he
        intro h
        exfalso
        have : ∀ (ls : List ByteArray) (a : Int) (r : Rdr) (q : Int × Int), linesF ls a r = .inl q → q.2 ≠ 0 := fun ls => by
          induction ls with
          | nil => intro a r q hq; cases hq
          | cons l ls ih =>
            intro a r q hq
            rw [linesF] at hq
            split at hq
            · split at hq
              · rename_i hne
                cases hq; exact hne
              · exact ih _ _ _ hq
            · exact ih _ _ _ hq
        exact this _ _ _ _ he h
      · rename_i r he
        have i0 : RInv rdr0 := ⟨List.nodup_nil, fun _ h => (by cases h), List.nodup_nil, List.nodup_nil, fun _ h => (by cases h), fun _ h => (by cases h), .inl rfl⟩
        obtain ⟨hi, k, hk⟩ := lines_keep (linesL s) 0 rdr0 r 0 i0 kept0 (by have := (lines_ok s).2; omega) he
        unfold endR
        split
        · intro h; cases h
        · rename_i hc
          split
          · rename_i hr
            intro _
            exact ⟨hr, close_len _ _, hi.nl, hi.names, hi.ni, hi.no, hk.ins, hk.outs, hi.iok, hi.ook, by have := hi.depth; show 1 ≤ r.depth ∧ r.depth ≤ 64; omega⟩
          · intro h; cases h
end Go.Proofs.YtcdfjaaipbjpnaaDoor

/- slices.Reverse of bytes. -/
namespace Go.Proofs.YtcdfjaaipbjpnaaDoor
open Go.Sx
set_option linter.unusedVariables false
set_option linter.unusedSimpArgs false
set_option maxRecDepth 100000


/-- The first i turned with the last i. -/
def revF (n i : Nat) (b : Nat → Int) : Nat → Int := fun k => if k < i ∨ n ≤ k + i then b (n - 1 - k) else b k

theorem reverse_spec (n : Nat) (b : Nat → Int) (hn : n ≤ big) : Proc PG 69 1 [.own 0] [.vec 5 1 n fun k => [.int .u8 (b k)]] (.tup []) [.vec 5 1 n fun k => [.int .u8 (b (n - 1 - k))]] := by
  refine Proc.mk (cfg1 28) tysOK [0] Tryd.func69 rfl (by kernel_rfl) rfl rfl rfl ?_
  intro C x
  unfold big at hn
  refine x.loop (α := { i : Nat // 2 * i ≤ n + 1 }) (fun y => ⟨[(0, .own 0), (2, vi (y.1 : Int)), (3, vi ((n : Int) - 1 - (y.1 : Int)))], [(0, .vec 5 1 n fun k => [.int .u8 (revF n y.1 b k)])], 1⟩) (fun y => n - y.1) ⟨0, by omega⟩ rfl (show inI64 ((n : Int) - 1) by unfold inI64; omega) ?_ (fun y => ?_)
  · refine ⟨⟨rfl, rfl, ?_, trivial⟩, ⟨⟨rfl, rfl, rfl, fun i hi => ?_⟩, trivial⟩, rfl⟩
    · show (n : Int) - 1 = (n : Int) - 1 - 0; omega
    · show [D.int .u8 (b i)] = [D.int .u8 (revF n 0 b i)]
      rw [revF, if_neg (by omega)]
  obtain ⟨i, hi⟩ := y
  change Go C _ ⟨[(0, .own 0), (2, vi (i : Int)), (3, vi ((n : Int) - 1 - (i : Int)))], [(0, .vec 5 1 n fun k => [.int .u8 (revF n i b k)])], 1⟩ _
  refine x.cond rfl trivial (fun h => ?_) (fun h => ?_)
  · have h' : (i : Int) < (n : Int) - 1 - i := by simpa using h
    refine x.plan [0, 1, 2, 3, 4, 5, 8, 9] [6, 7, 10, 11, 12] [13, 14, 15] rfl trivial mixedP (by kernel_rfl) Ret.noPanic ?_
    refine x.qdone rfl ?_ ?_
    · simp only [AllP]; omega
    refine x.back rfl ?_ ?_
    · simp only [AllP, List.length, inI64]; omega
    refine ⟨⟨i + 1, by omega⟩, by show n - (i + 1) < n - i; omega, ⟨rfl, ?_, ?_, trivial⟩, ⟨⟨rfl, rfl, rfl, fun k hk => ?_⟩, trivial⟩, rfl⟩
    · show (i : Int) + 1 = ((i + 1 : Nat) : Int); omega
    · show (n : Int) - 1 - i - 1 = (n : Int) - 1 - ((i + 1 : Nat) : Int); omega
    · rw [put2_int, put2_int]
      show [D.int .u8 (if k = ((n : Int) - 1 - i).toNat then revF n i b (i : Int).toNat else if k = (i : Int).toNat then revF n i b ((n : Int) - 1 - i).toNat else revF n i b k)] = [D.int .u8 (revF n (i + 1) b k)]
      congr 2
      rw [show ((n : Int) - 1 - i).toNat = n - 1 - i by omega, show (i : Int).toNat = i by omega]
      have e1 : revF n i b i = b i := by rw [revF, if_neg (by omega)]
      have e2 : revF n i b (n - 1 - i) = b (n - 1 - i) := by rw [revF, if_neg (by omega)]
      rw [e1, e2]
      by_cases h1 : k = n - 1 - i
      · rw [if_pos h1, revF, if_pos (by omega), h1, show n - 1 - (n - 1 - i) = i by omega]
      · rw [if_neg h1]
        by_cases h2 : k = i
        · rw [if_pos h2, revF, if_pos (by omega), h2]
        · rw [if_neg h2, revF, revF]
          by_cases h3 : k < i ∨ n ≤ k + i
          · rw [if_pos h3, if_pos (by omega)]
          · rw [if_neg h3, if_neg (by omega)]
  · have h' : ¬ (i : Int) < (n : Int) - 1 - i := by simpa using h
    refine x.exit rfl trivial ?_
    refine ⟨.inl rfl, trivial, ⟨⟨rfl, rfl, rfl, fun k hk => ?_⟩, trivial⟩, rfl⟩
    show [D.int .u8 (revF n i b k)] = [D.int .u8 (b (n - 1 - k))]
    rw [revF]
    split
    · rfl
    · rw [show n - 1 - k = k by omega]
end Go.Proofs.YtcdfjaaipbjpnaaDoor

/- The text of a number. -/
namespace Go.Proofs.YtcdfjaaipbjpnaaDoor
open Go.Sx
set_option linter.unusedVariables false
set_option linter.unusedSimpArgs false
set_option maxRecDepth 100000

/-- The digits got so far, the last one first. -/
structure SI (u0 : Nat) where
  u : Nat
  l : List Int
  lo : ∀ x ∈ l, 48 ≤ x ∧ x ≤ 57
  same : digs0 u ++ (l.map fun x => UInt8.ofNat x.toNat).reverse = if l = [] then digs0 u0 else digs u0
  first : l = [] → u = u0
  len : l.length ≤ 20 ∧ u < 10 ^ (20 - l.length)

theorem turn_list (l : List Int) : (List.range l.length).map (fun i => UInt8.ofNat (l.getD (l.length - 1 - i) 0).toNat) = (l.map fun x => UInt8.ofNat x.toNat).reverse := by
  apply List.ext_getElem
  · simp
  · intro i h1 h2
    simp at h1
    have : l.length - 1 - i < l.length := by omega
    simp [this]

theorem show_spec (n : Int) (hn : inI64 n) : Pure PG 42 [vi n] (vs (showV n)) [] := by
  refine Proc.mk ⟨34, 0, false, tys⟩ tysOK [] Tryd.func42 rfl (by kernel_rfl) rfl rfl rfl ?_
  intro C x
  unfold inI64 at hn
  refine x.ite (α := Unit) (fun _ => ⟨[(3, .d (.int .u64 (n.natAbs : Int))), (4, vs (ba (sgV n)))], [], 0⟩) rfl trivial (fun h => ?_) (fun h => ?_) (fun _ => ?_)
  · refine x.back rfl trivial ⟨(), ⟨?_, ?_, trivial⟩, trivial, rfl⟩
    · show IntKind.u64.wrap (0 - IntKind.u64.wrap n) = n.natAbs
      have : n < 0 := by simpa using h
      rw [IntKind.wrap_u64, IntKind.wrap_u64]
      omega
    · show _ = ba (sgV n)
      rw [sgV, if_pos (by simpa using h)]
      rfl
  · refine x.back rfl trivial ⟨(), ⟨?_, ?_, trivial⟩, trivial, rfl⟩
    · show IntKind.u64.wrap n = n.natAbs
      have : ¬ n < 0 := by simpa using h
      rw [IntKind.wrap_u64]
      omega
    · show _ = ba (sgV n)
      rw [sgV, if_neg (by simpa using h)]
      rfl
  refine x.toLoop rfl trivial ?_
  refine Go.own 5 5 1 (fun _ => []) rfl ?_
  refine x.loop (α := SI n.natAbs) (fun y => ⟨[(3, .d (.int .u64 (y.u : Int))), (4, vs (ba (sgV n))), (5, .own 0)], [(0, .vec 5 1 y.l.length fun i => [.int .u8 (y.l.getD i 0)])], 1⟩) (fun y => 21 - y.l.length)
    ⟨n.natAbs, [], by simp, by simp, fun _ => rfl, by simp, by show n.natAbs < 100000000000000000000; omega⟩ rfl trivial ?_ (fun y => ?_)
  · exact ⟨⟨rfl, rfl, rfl, trivial⟩, ⟨⟨rfl, rfl, rfl, fun i hi => absurd hi (Nat.not_lt_zero _)⟩, trivial⟩, rfl⟩
  obtain ⟨u, l, lo, same, first, len⟩ := y
  change Go C _ ⟨[(3, .d (.int .u64 (u : Int))), (4, vs (ba (sgV n))), (5, .own 0)], [(0, .vec 5 1 l.length fun i => [.int .u8 (l.getD i 0)])], 1⟩ _
  refine x.cond rfl trivial (fun h => ?_) (fun h => ?_)
  · have h' : 0 < u ∨ l = [] := by
      simp only [Bool.or_eq_true, decide_eq_true_eq] at h
      rcases h with h | h
      · exact .inl (by omega)
      · exact .inr (List.length_eq_zero_iff.1 (by omega))
    have hl : l.length ≤ 19 := by
      rcases h' with h' | rfl
      · refine Classical.byContradiction fun hh => ?_
        have : l.length = 20 := by omega
        rw [this] at len
        simp at len
        omega
      · simp
    refine x.back rfl ?_ ?_
    · simp only [AllP, big]; omega
    have hd : IntKind.u8.wrap (IntKind.u64.wrap (48 + (u : Int).tmod 10)) = 48 + ((u % 10 : Nat) : Int) := by
      rw [IntKind.wrap_u64, IntKind.wrap_u8, Int.tmod_eq_emod_of_nonneg (by omega)]
      omega
    have hq : IntKind.u64.wrap ((u : Int).tdiv 10) = ((u / 10 : Nat) : Int) := by
      have h1 : u < 10 ^ 20 := Nat.lt_of_lt_of_le len.2 (Nat.pow_le_pow_right (by omega) (by omega))
      have h2 : u / 10 < 10000000000000000000 := by omega
      rw [Int.tdiv_eq_ediv_of_nonneg (by omega), IntKind.wrap_u64]
      omega
    refine ⟨⟨u / 10, l ++ [48 + ((u % 10 : Nat) : Int)], ?_, ?_, ?_, ?_⟩, ?_, ⟨?_, rfl, rfl, trivial⟩, ⟨⟨rfl, rfl, ?_, ?_⟩, trivial⟩, rfl⟩
    · intro y hy
      rcases List.mem_append.1 hy with hy | hy
      · exact lo y hy
      · rw [List.mem_singleton.1 hy]; omega
    · rw [if_neg (by simp)]
      simp only [List.map_append, List.map_cons, List.map_nil, List.reverse_append, List.reverse_cons, List.reverse_nil, List.nil_append, List.singleton_append]
      rw [show (48 + ((u % 10 : Nat) : Int)).toNat = 48 + u % 10 by omega]
      rw [show digs0 (u / 10) ++ UInt8.ofNat (48 + u % 10) :: (l.map fun x => UInt8.ofNat x.toNat).reverse = (digs0 (u / 10) ++ [UInt8.ofNat (48 + u % 10)]) ++ (l.map fun x => UInt8.ofNat x.toNat).reverse by simp]
      rw [digs0_app]
      rcases h' with h' | rfl
      · by_cases hl0 : l = []
        · rw [hl0, first hl0]; simp
        · rw [if_neg hl0, digs0, if_neg (by omega)] at same
          exact same
      · rw [first rfl]; simp
    · intro h; simp at h
    · refine ⟨by simp; omega, ?_⟩
      have h1 : 20 - l.length = (19 - l.length) + 1 := by omega
      rw [h1, Nat.pow_succ] at len
      rw [List.length_append, List.length_singleton, show 20 - (l.length + 1) = 19 - l.length by omega]
      omega
    · show 21 - (l ++ [_]).length < 21 - l.length
      simp; omega
    · exact hq
    · show l.length + 1 = (l ++ [_]).length
      simp
    · intro i hi
      have := app_list .u8 l (48 + ((u % 10 : Nat) : Int)) i hi
      refine Eq.trans ?_ this
      show app l.length _ (fun _ => [D.int .u8 (IntKind.u8.wrap (IntKind.u64.wrap (48 + (u : Int).tmod 10)))]) i = _
      rw [hd]
  · have h' : u = 0 ∧ l ≠ [] := by
      simp only [Bool.or_eq_false_iff, decide_eq_false_iff_not] at h
      exact ⟨by omega, fun e => h.2 (by rw [e]; rfl)⟩
    obtain ⟨rfl, hne⟩ := h'
    rw [if_neg hne, digs0, if_pos rfl, List.nil_append] at same
    refine x.call [0] rfl trivial rfl (reverse_spec l.length (fun k => l.getD k 0) (by unfold big; omega)) rfl ⟨rfl, trivial⟩ ⟨⟨rfl, rfl, rfl, fun _ _ => rfl⟩, trivial⟩ ?_
    refine x.exit rfl ?_ ?_
    · refine ⟨fun i hi => trivial, ?_⟩
      show (((ba (sgV n)).size + (bytesOf l.length fun k => [D.int .u8 (l.getD (l.length - 1 - k) 0)]).size : Nat) : Int) ≤ 9223372036854775807
      rw [bytesOf_ba, ba_size, ba_size]
      have : (sgV n).length ≤ 1 := by unfold sgV; split <;> simp
      simp only [List.length_map, List.length_range]
      omega
    refine ⟨.inr rfl, ?_, trivial, rfl⟩
    show ba (sgV n) ++ bytesOf l.length (fun k => [D.int .u8 (l.getD (l.length - 1 - k) 0)]) = showV n
    rw [bytesOf_ba, turn_list, same, ba_app]
    rfl

end Go.Proofs.YtcdfjaaipbjpnaaDoor

/- Policies: what the program writes. -/
namespace Go.Proofs.YtcdfjaaipbjpnaaDoor
open Go.Sx
set_option linter.unusedVariables false
set_option linter.unusedSimpArgs false
set_option maxRecDepth 100000

abbrev big6 : Nat := 140737488355328
def spB : ByteArray := ⟨#[32]⟩
def addB (acc : ByteArray) (ws : List ByteArray) : ByteArray := acc ++ (joinB ws spB ++ (⟨#[10]⟩ : ByteArray))
/-- Lines, as a text. -/
def tB (W : List (List ByteArray)) : ByteArray := W.foldl addB .empty
theorem tB_snoc (W : List (List ByteArray)) (ws : List ByteArray) : tB (W ++ [ws]) = addB (tB W) ws := by
  unfold tB
  rw [List.foldl_append]; rfl
theorem join_l : ∀ ws : List ByteArray, tl (joinB ws spB) = joinL ws
  | [] => rfl
  | [w] => by simp [joinB, Lib.join, joinL, tl]
  | w :: v :: r => by
    have ih := join_l (v :: r)
    rw [joinL, ← ih]
    show Lib.join ((w :: v :: r).map (·.data.toList)) [32] = tl w ++ 32 :: Lib.join ((v :: r).map (·.data.toList)) [32]
    simp [Lib.join]
theorem addB_l (acc : ByteArray) (ws : List ByteArray) : tl (addB acc ws) = tl acc ++ (joinL ws ++ [10]) := by
  unfold addB
  rw [tl, app_data, app_data, show (joinB ws spB).data.toList = joinL ws from join_l ws]
theorem tB_l (W : List (List ByteArray)) : tl (tB W) = textL W := by
  have : ∀ (W : List (List ByteArray)) (acc : ByteArray), tl (W.foldl addB acc) = tl acc ++ textL W := fun W => by
    induction W with
    | nil => intro acc; simp [textL]
    | cons ws W ih => intro acc; rw [List.foldl_cons, ih, addB_l]; simp [textL]
  exact this W .empty
theorem tB_size (W : List (List ByteArray)) : (tB W).size = (textL W).length := by rw [← tB_l, size_l]
theorem addB_size (acc : ByteArray) (ws : List ByteArray) : (addB acc ws).size = acc.size + ((joinB ws spB).size + 1) := by
  unfold addB
  rw [app_size, app_size]; rfl
/-- So far it is small. -/
theorem tB_small {p : Pol} (h : PolR p) {W V : List (List ByteArray)} (e : W ++ V = printW p) : (tB W).size ≤ 65536 := by
  have := (print_ok h).2.1
  rw [← e, textL_app, List.length_append] at this
  rw [tB_size]; omega
theorem add_small {p : Pol} (h : PolR p) {W V : List (List ByteArray)} {ws : List ByteArray} (e : (W ++ [ws]) ++ V = printW p) : (tB W).size + ((joinB ws spB).size + 1) ≤ 65536 := by
  have := tB_small h e
  rw [tB_snoc, addB_size] at this
  exact this

/-! ### the library -/
abbrev bldT : TypeId := 74
abbrev u8T : TypeId := 5
theorem pwrite_spec (l s : ByteArray) (h : l.size + s.size ≤ big6) : Proc PG 39 1 [.ptr 0 0, vs s] [.bld bldT (.own 1), bytesC u8T l] (.tup [vi s.size, .d .ni]) [.bld bldT (.own 1), bytesC u8T (l ++ s)] :=
  Proc.ofWrite (P := PG) (r := Tryd.lays156_ren) { Tryd.lays156 with } Tryd.Builder_Extra_156 (callable_of Tryd.func39 (by kernel_rfl) (by kernel_rfl)) l s h
theorem pstring_spec (l : ByteArray) : Proc PG 43 1 [.ptr 0 0] [.bld bldT (.own 1), bytesC u8T l] (vs l) [.box [.dead, .dead], .vec u8T 1 0 fun _ => []] :=
  Proc.ofString (P := PG) Tryd.lays169 Tryd.Builder_Extra_169 (callable_of Tryd.func43 (by kernel_rfl) (by kernel_rfl)) l
theorem pjoin_spec (xs : List ByteArray) (sep : ByteArray) (hN : xs.length ≤ big6) (hlen : (joinB xs sep).size ≤ big6) : Pure PG 40 [vSs xs, vs sep] (vs (joinB xs sep)) [] :=
  Pure.ofJoin (P := PG) Tryd.lays156 Tryd.Builder_Extra_156 (callable_of Tryd.func40 (by kernel_rfl) (by kernel_rfl)) xs sep hN hlen
theorem pline_spec (l : ByteArray) (ws : List ByteArray) (hN : ws.length ≤ big6) (h : l.size + ((joinB ws spB).size + 1) ≤ big6) : Proc PG 38 1 [vSs ws, .ptr 0 0] [.bld bldT (.own 1), bytesC u8T l] (.tup []) [.bld bldT (.own 1), bytesC u8T (addB l ws)] := by
  refine Proc.mk (cfgF 7 1) tysOK [0, 1] Tryd.func38 rfl (by kernel_rfl) rfl rfl rfl ?_
  intro C x
  unfold big6 at h hN
  refine x.pure rfl trivial rfl (pjoin_spec ws spB hN (by unfold big6; omega)) ⟨veq_d rfl, rfl, trivial⟩ ?_
  refine x.call [0, 1] rfl (by simp only [AllP]; show (((joinB ws spB).size + 1 : Nat) : Int) ≤ _; omega) rfl (pwrite_spec l (joinB ws spB ++ (⟨#[10]⟩ : ByteArray)) (by rw [app_size]; exact h)) rfl ⟨⟨rfl, rfl⟩, rfl, trivial⟩ ⟨⟨rfl, rfl⟩, ⟨rfl, rfl, rfl, fun _ _ => rfl⟩, trivial⟩ ?_
  refine x.exit rfl trivial ?_
  exact ⟨.inl rfl, trivial, ⟨⟨rfl, rfl⟩, ⟨rfl, rfl, rfl, fun _ _ => rfl⟩, trivial⟩, rfl⟩

theorem ev2 {α : Type} {f g : Nat → α} (h0 : f 0 = g 0) (h1 : f 1 = g 1) : ∀ i, i < 2 → f i = g i
  | 0, _ => h0
  | 1, _ => h1
  | n + 2, h => by omega
theorem ev3 {α : Type} {f g : Nat → α} (h0 : f 0 = g 0) (h1 : f 1 = g 1) (h2 : f 2 = g 2) : ∀ i, i < 3 → f i = g i
  | 0, _ => h0
  | 1, _ => h1
  | 2, _ => h2
  | n + 3, h => by omega
theorem bytes_eq {T : TypeId} {a b : ByteArray} (h : a = b) : ChEq (bytesC T a) (bytesC T b) := by subst h; exact ⟨rfl, rfl, rfl, fun _ _ => rfl⟩
/-- The text of a policy, an error's number. -/
def printPol (p : Pol) : ByteArray × Int := if rightP p then (tB (printW p), 0) else (.empty, 1)
theorem getD_at {α : Type} {l : List α} {a0 : α} {i : Nat} (h : i < l.length) : l[i]? = some (l.getD i a0) := by
  rw [List.getD_eq_getElem?_getD, List.getElem?_eq_getElem h]; rfl
theorem take_map {α : Type} (f : α → List ByteArray) {l : List α} {a0 : α} {i : Nat} (h : i < l.length) : (l.take (i + 1)).map f = (l.take i).map f ++ [f (l.getD i a0)] := by
  rw [take_succ (getD_at (a0 := a0) h), List.map_append]; rfl
theorem take_cut {α : Type} (f : α → List ByteArray) {l : List α} (i : Nat) : (l.take i).map f ++ (l.drop i).map f = l.map f := by rw [← List.map_append, List.take_append_drop]

set_option maxHeartbeats 8000000 in
theorem pprint_spec (p : Pol) (hz : PolZ p) : Pure PG 19 [vPol p] (.tup [vs (printPol p).1, vi (printPol p).2]) [] := by
  refine Proc.mk (cfg 99) tysOK [] Tryd.func19 rfl (by kernel_rfl) rfl rfl rfl ?_
  intro C x
  refine x.pure rfl trivial rfl (pright_spec p hz) ⟨⟨veq0_d rfl, veq0_d rfl, veq0_d rfl, veq0_d rfl, rfl, trivial⟩, trivial⟩ ?_
  refine x.cond rfl trivial (fun h => ?_) (fun h => ?_)
  · have h : (!rightP p) = true := h
    refine x.exit rfl trivial ?_
    unfold printPol
    rw [if_neg (by simpa using h)]
    exact ⟨.inr rfl, ⟨rfl, rfl, trivial⟩, trivial, rfl⟩
  have h : (!rightP p) = false := h
  have hr : rightP p = true := by simpa using h
  have hR := (right_iff p).1 hr
  unfold printPol
  rw [if_pos hr]
  clear h
  have ho : orderM p.up = true := by have := hR.up; unfold rightM at this; rw [Bool.and_eq_true] at this; exact this.1
  have hl64 := (order_len ho).2
  have hlen := hR.len
  have hil := hR.il
  have hol := hR.ol
  have hcf := covers_few hR.up
  refine x.toLoop rfl trivial ?_
  refine Go.ownBld 1 u8T bldT 1 (fun i => [.int .u8 (sb .empty i)]) rfl ?_
  refine x.loop (α := { i : Nat // i ≤ p.lev.length }) (fun y => ⟨[(1, .ptr 0 0), (4, .ptr 1 0), (5, .fn 38 [.ptr 1 0]), (19, vSs p.lev), (20, vi p.lev.length), (21, vi (y.1 : Int))], [(0, polB p), (1, .bld bldT (.own 2)), (2, bytesC u8T (tB (levW (p.lev.take y.1))))], 3⟩) (fun y => p.lev.length - y.1) ⟨0, Nat.zero_le _⟩ rfl trivial ⟨⟨⟨rfl, rfl⟩, ⟨rfl, rfl⟩, rfl, veq_d rfl, rfl, rfl, trivial⟩, ⟨polB_eq p, ⟨rfl, rfl⟩, ⟨rfl, rfl, rfl, fun _ _ => rfl⟩, trivial⟩, rfl⟩ (fun y => ?_)
  obtain ⟨i, hi⟩ := y
  change Go C _ ⟨[(1, .ptr 0 0), (4, .ptr 1 0), (5, .fn 38 [.ptr 1 0]), (19, vSs p.lev), (20, vi p.lev.length), (21, vi (i : Int))], [(0, polB p), (1, .bld bldT (.own 2)), (2, bytesC u8T (tB (levW (p.lev.take i))))], 3⟩ _
  refine x.cond rfl trivial (fun h2 => ?_) (fun h2 => ?_)
  · have h2 : i < p.lev.length := by have := of_decide_eq_true h2; omega
    have hsuc : levW (p.lev.take (i + 1)) = levW (p.lev.take i) ++ [[wB wLevel, p.lev.getD i .empty]] := take_map _ h2
    have hsm := add_small hR (W := levW (p.lev.take i)) (ws := [wB wLevel, p.lev.getD i .empty]) (V := levW (p.lev.drop (i + 1)) ++ (flowW p.lev (coversM p.up) ++ (chanW wInput p.lev p.ins ++ (chanW wOutput p.lev p.outs ++ depW p.depth)))) (by
      rw [← hsuc, ← List.append_assoc, show levW (p.lev.take (i + 1)) ++ levW (p.lev.drop (i + 1)) = levW p.lev from take_cut _ (i + 1)]; rfl)
    refine x.op rfl (by simp only [AllP]; omega) ?_
    refine Sx.Go.freeze 3 ?_
    refine x.call [1, 2] rfl trivial rfl (pline_spec (tB (levW (p.lev.take i))) [wB wLevel, p.lev.getD i .empty] (Nat.le_of_ble_eq_true rfl) (by unfold big6; omega)) rfl ⟨⟨rfl, fun _ => rfl, ev2 rfl rfl⟩, ⟨rfl, rfl⟩, trivial⟩ ⟨⟨rfl, rfl⟩, ⟨rfl, rfl, rfl, fun _ _ => rfl⟩, trivial⟩ ?_
    refine x.back rfl (by simp only [AllP, inI64]; omega) ⟨⟨i + 1, by omega⟩, by show p.lev.length - (i + 1) < p.lev.length - i; omega, ⟨⟨rfl, rfl⟩, ⟨rfl, rfl⟩, rfl, veq_d rfl, rfl, (show VEq0 (vi ((i : Int) + 1)) (vi ((i + 1 : Nat) : Int)) by rw [Int.natCast_add]; rfl), trivial⟩, ⟨polB_eq p, ⟨rfl, rfl⟩, bytes_eq (by rw [hsuc, tB_snoc]), trivial⟩, rfl⟩
  have h2 : i = p.lev.length := by have := of_decide_eq_false h2; omega
  subst h2
  rw [List.take_length]
  refine x.pure rfl trivial rfl (pcovers_spec p.up hR.up) ⟨veq_d rfl, trivial⟩ ?_
  refine x.loop (α := { i : Nat // i ≤ (coversM p.up).length }) (fun y => ⟨[(1, .ptr 0 0), (4, .ptr 1 0), (5, .fn 38 [.ptr 1 0]), (32, vPairs (coversM p.up)), (33, vi (coversM p.up).length), (34, vi (y.1 : Int))], [(0, polB p), (1, .bld bldT (.own 2)), (2, bytesC u8T (tB (levW p.lev ++ flowW p.lev ((coversM p.up).take y.1))))], 3⟩) (fun y => (coversM p.up).length - y.1) ⟨0, Nat.zero_le _⟩ rfl trivial ⟨⟨⟨rfl, rfl⟩, ⟨rfl, rfl⟩, rfl, veq_d rfl, rfl, rfl, trivial⟩, ⟨polB_eq p, ⟨rfl, rfl⟩, bytes_eq (by simp [flowW]), trivial⟩, rfl⟩ (fun y => ?_)
  obtain ⟨i, hi⟩ := y
  change Go C _ ⟨[(1, .ptr 0 0), (4, .ptr 1 0), (5, .fn 38 [.ptr 1 0]), (32, vPairs (coversM p.up)), (33, vi (coversM p.up).length), (34, vi (i : Int))], [(0, polB p), (1, .bld bldT (.own 2)), (2, bytesC u8T (tB (levW p.lev ++ flowW p.lev ((coversM p.up).take i))))], 3⟩ _
  refine x.cond rfl trivial (fun h2 => ?_) (fun h2 => ?_)
  · have h2 : i < (coversM p.up).length := by have := of_decide_eq_true h2; omega
    obtain ⟨c, hc⟩ : ∃ c, (coversM p.up).getD i (0, 0) = c := ⟨_, rfl⟩
    have hcl : c.1 < p.lev.length ∧ c.2 < p.lev.length := by
      rw [← hlen, ← hc]
      exact covers_lt (ord_of ho) _ (List.mem_of_getElem? (getD_at h2))
    have hsuc : flowW p.lev ((coversM p.up).take (i + 1)) = flowW p.lev ((coversM p.up).take i) ++ [[wB wFlow, p.lev.getD c.1 .empty, p.lev.getD c.2 .empty]] := by rw [← hc]; exact take_map (a0 := (0, 0)) (fun c : Nat × Nat => [wB wFlow, p.lev.getD c.1 .empty, p.lev.getD c.2 .empty]) h2
    have hsm := add_small hR (W := levW p.lev ++ flowW p.lev ((coversM p.up).take i)) (ws := [wB wFlow, p.lev.getD c.1 .empty, p.lev.getD c.2 .empty]) (V := flowW p.lev ((coversM p.up).drop (i + 1)) ++ (chanW wInput p.lev p.ins ++ (chanW wOutput p.lev p.outs ++ depW p.depth))) (by
      rw [List.append_assoc (levW p.lev), ← hsuc, List.append_assoc, ← List.append_assoc (flowW p.lev _), show flowW p.lev ((coversM p.up).take (i + 1)) ++ flowW p.lev ((coversM p.up).drop (i + 1)) = flowW p.lev (coversM p.up) from take_cut _ (i + 1)]; rfl)
    have ei : ((i : Int).toNat) = i := Int.toNat_natCast i
    have hce : (coversM p.up).getD ((i : Int).toNat) (0, 0) = c := by rw [ei]; exact hc
    refine x.plan [0] [1, 2, 3, 4, 5, 6, 7, 8, 9, 10, 11, 12] [13, 14] rfl (by simp only [AllP]; omega) mixedP (by kernel_rfl) Ret.noPanic ?_
    rw [hce]
    refine x.qdone rfl (by simp only [AllP]; omega) ?_
    refine x.op rfl trivial ?_
    refine Sx.Go.freeze 4 ?_
    refine x.call [1, 2] rfl trivial rfl (pline_spec (tB (levW p.lev ++ flowW p.lev ((coversM p.up).take i))) [wB wFlow, p.lev.getD c.1 .empty, p.lev.getD c.2 .empty] (Nat.le_of_ble_eq_true rfl) (by unfold big6; omega)) rfl ⟨⟨rfl, fun _ => rfl, ev3 rfl rfl rfl⟩, ⟨rfl, rfl⟩, trivial⟩ ⟨⟨rfl, rfl⟩, ⟨rfl, rfl, rfl, fun _ _ => rfl⟩, trivial⟩ ?_
    refine x.back rfl (by simp only [AllP, inI64]; omega) ⟨⟨i + 1, by omega⟩, by show (coversM p.up).length - (i + 1) < (coversM p.up).length - i; omega, ⟨⟨rfl, rfl⟩, ⟨rfl, rfl⟩, rfl, veq_d rfl, rfl, (show VEq0 (vi ((i : Int) + 1)) (vi ((i + 1 : Nat) : Int)) by rw [Int.natCast_add]; rfl), trivial⟩, ⟨polB_eq p, ⟨rfl, rfl⟩, bytes_eq (by rw [hsuc, ← List.append_assoc, tB_snoc]), trivial⟩, rfl⟩
  have h2 : i = (coversM p.up).length := by have := of_decide_eq_false h2; omega
  subst h2
  rw [List.take_length]
  refine x.loop (α := { i : Nat // i ≤ p.ins.length }) (fun y => ⟨[(1, .ptr 0 0), (4, .ptr 1 0), (5, .fn 38 [.ptr 1 0]), (55, vChs p.ins), (56, vi p.ins.length), (57, vi (y.1 : Int))], [(0, polB p), (1, .bld bldT (.own 2)), (2, bytesC u8T (tB (levW p.lev ++ flowW p.lev (coversM p.up) ++ chanW wInput p.lev (p.ins.take y.1))))], 3⟩) (fun y => p.ins.length - y.1) ⟨0, Nat.zero_le _⟩ rfl trivial ⟨⟨⟨rfl, rfl⟩, ⟨rfl, rfl⟩, rfl, veq_d rfl, rfl, rfl, trivial⟩, ⟨polB_eq p, ⟨rfl, rfl⟩, bytes_eq (by simp [chanW]), trivial⟩, rfl⟩ (fun y => ?_)
  obtain ⟨i, hi⟩ := y
  change Go C _ ⟨[(1, .ptr 0 0), (4, .ptr 1 0), (5, .fn 38 [.ptr 1 0]), (55, vChs p.ins), (56, vi p.ins.length), (57, vi (i : Int))], [(0, polB p), (1, .bld bldT (.own 2)), (2, bytesC u8T (tB (levW p.lev ++ flowW p.lev (coversM p.up) ++ chanW wInput p.lev (p.ins.take i))))], 3⟩ _
  refine x.cond rfl trivial (fun h2 => ?_) (fun h2 => ?_)
  · have h2 : i < p.ins.length := by have := of_decide_eq_true h2; omega
    obtain ⟨c, hc⟩ : ∃ c, p.ins.getD i chan0 = c := ⟨_, rfl⟩
    have hcl : OKC p.lev c := by rw [← hc]; exact hR.iok _ (List.mem_of_getElem? (getD_at h2))
    obtain ⟨c1, c2, c3⟩ := hcl
    have hsuc : chanW wInput p.lev (p.ins.take (i + 1)) = chanW wInput p.lev (p.ins.take i) ++ [[wB wInput, c.1, p.lev.getD c.2.toNat .empty]] := by rw [← hc]; exact take_map (a0 := chan0) (fun c : Chan => [wB wInput, c.1, p.lev.getD c.2.toNat .empty]) h2
    have hsm := add_small hR (W := levW p.lev ++ flowW p.lev (coversM p.up) ++ chanW wInput p.lev (p.ins.take i)) (ws := [wB wInput, c.1, p.lev.getD c.2.toNat .empty]) (V := chanW wInput p.lev (p.ins.drop (i + 1)) ++ (chanW wOutput p.lev p.outs ++ depW p.depth)) (by
      rw [List.append_assoc (levW p.lev ++ _), ← hsuc, List.append_assoc, ← List.append_assoc (chanW wInput p.lev _), show chanW wInput p.lev (p.ins.take (i + 1)) ++ chanW wInput p.lev (p.ins.drop (i + 1)) = chanW wInput p.lev p.ins from take_cut _ (i + 1), List.append_assoc]; rfl)
    have ei : ((i : Int).toNat) = i := Int.toNat_natCast i
    have hce : p.ins.getD ((i : Int).toNat) chan0 = c := by rw [ei]; exact hc
    refine x.plan [0] [1, 2, 3, 4, 5, 6, 7, 8] [9, 10] rfl (by simp only [AllP]; omega) mixedP (by kernel_rfl) Ret.noPanic ?_
    rw [hce]
    refine x.qdone rfl (by simp only [AllP]; omega) ?_
    refine x.op rfl trivial ?_
    refine Sx.Go.freeze 4 ?_
    refine x.call [1, 2] rfl trivial rfl (pline_spec (tB (levW p.lev ++ flowW p.lev (coversM p.up) ++ chanW wInput p.lev (p.ins.take i))) [wB wInput, c.1, p.lev.getD c.2.toNat .empty] (Nat.le_of_ble_eq_true rfl) (by unfold big6; omega)) rfl ⟨⟨rfl, fun _ => rfl, ev3 rfl rfl rfl⟩, ⟨rfl, rfl⟩, trivial⟩ ⟨⟨rfl, rfl⟩, ⟨rfl, rfl, rfl, fun _ _ => rfl⟩, trivial⟩ ?_
    refine x.back rfl (by simp only [AllP, inI64]; omega) ⟨⟨i + 1, by omega⟩, by show p.ins.length - (i + 1) < p.ins.length - i; omega, ⟨⟨rfl, rfl⟩, ⟨rfl, rfl⟩, rfl, veq_d rfl, rfl, (show VEq0 (vi ((i : Int) + 1)) (vi ((i + 1 : Nat) : Int)) by rw [Int.natCast_add]; rfl), trivial⟩, ⟨polB_eq p, ⟨rfl, rfl⟩, bytes_eq (by rw [hsuc, ← List.append_assoc, tB_snoc]), trivial⟩, rfl⟩
  have h2 : i = p.ins.length := by have := of_decide_eq_false h2; omega
  subst h2
  rw [List.take_length]
  refine x.loop (α := { i : Nat // i ≤ p.outs.length }) (fun y => ⟨[(1, .ptr 0 0), (4, .ptr 1 0), (5, .fn 38 [.ptr 1 0]), (74, vChs p.outs), (75, vi p.outs.length), (76, vi (y.1 : Int))], [(0, polB p), (1, .bld bldT (.own 2)), (2, bytesC u8T (tB (levW p.lev ++ flowW p.lev (coversM p.up) ++ chanW wInput p.lev p.ins ++ chanW wOutput p.lev (p.outs.take y.1))))], 3⟩) (fun y => p.outs.length - y.1) ⟨0, Nat.zero_le _⟩ rfl trivial ⟨⟨⟨rfl, rfl⟩, ⟨rfl, rfl⟩, rfl, veq_d rfl, rfl, rfl, trivial⟩, ⟨polB_eq p, ⟨rfl, rfl⟩, bytes_eq (by simp [chanW]), trivial⟩, rfl⟩ (fun y => ?_)
  obtain ⟨i, hi⟩ := y
  change Go C _ ⟨[(1, .ptr 0 0), (4, .ptr 1 0), (5, .fn 38 [.ptr 1 0]), (74, vChs p.outs), (75, vi p.outs.length), (76, vi (i : Int))], [(0, polB p), (1, .bld bldT (.own 2)), (2, bytesC u8T (tB (levW p.lev ++ flowW p.lev (coversM p.up) ++ chanW wInput p.lev p.ins ++ chanW wOutput p.lev (p.outs.take i))))], 3⟩ _
  refine x.cond rfl trivial (fun h2 => ?_) (fun h2 => ?_)
  · have h2 : i < p.outs.length := by have := of_decide_eq_true h2; omega
    obtain ⟨c, hc⟩ : ∃ c, p.outs.getD i chan0 = c := ⟨_, rfl⟩
    have hcl : OKC p.lev c := by rw [← hc]; exact hR.ook _ (List.mem_of_getElem? (getD_at h2))
    obtain ⟨c1, c2, c3⟩ := hcl
    have hsuc : chanW wOutput p.lev (p.outs.take (i + 1)) = chanW wOutput p.lev (p.outs.take i) ++ [[wB wOutput, c.1, p.lev.getD c.2.toNat .empty]] := by rw [← hc]; exact take_map (a0 := chan0) (fun c : Chan => [wB wOutput, c.1, p.lev.getD c.2.toNat .empty]) h2
    have hsm := add_small hR (W := levW p.lev ++ flowW p.lev (coversM p.up) ++ chanW wInput p.lev p.ins ++ chanW wOutput p.lev (p.outs.take i)) (ws := [wB wOutput, c.1, p.lev.getD c.2.toNat .empty]) (V := chanW wOutput p.lev (p.outs.drop (i + 1)) ++ depW p.depth) (by
      rw [List.append_assoc (levW p.lev ++ _ ++ _), ← hsuc, List.append_assoc, ← List.append_assoc (chanW wOutput p.lev _), show chanW wOutput p.lev (p.outs.take (i + 1)) ++ chanW wOutput p.lev (p.outs.drop (i + 1)) = chanW wOutput p.lev p.outs from take_cut _ (i + 1), List.append_assoc, List.append_assoc]; rfl)
    have ei : ((i : Int).toNat) = i := Int.toNat_natCast i
    have hce : p.outs.getD ((i : Int).toNat) chan0 = c := by rw [ei]; exact hc
    refine x.plan [0] [1, 2, 3, 4, 5, 6, 7, 8] [9, 10] rfl (by simp only [AllP]; omega) mixedP (by kernel_rfl) Ret.noPanic ?_
    rw [hce]
    refine x.qdone rfl (by simp only [AllP]; omega) ?_
    refine x.op rfl trivial ?_
    refine Sx.Go.freeze 4 ?_
    refine x.call [1, 2] rfl trivial rfl (pline_spec (tB (levW p.lev ++ flowW p.lev (coversM p.up) ++ chanW wInput p.lev p.ins ++ chanW wOutput p.lev (p.outs.take i))) [wB wOutput, c.1, p.lev.getD c.2.toNat .empty] (Nat.le_of_ble_eq_true rfl) (by unfold big6; omega)) rfl ⟨⟨rfl, fun _ => rfl, ev3 rfl rfl rfl⟩, ⟨rfl, rfl⟩, trivial⟩ ⟨⟨rfl, rfl⟩, ⟨rfl, rfl, rfl, fun _ _ => rfl⟩, trivial⟩ ?_
    refine x.back rfl (by simp only [AllP, inI64]; omega) ⟨⟨i + 1, by omega⟩, by show p.outs.length - (i + 1) < p.outs.length - i; omega, ⟨⟨rfl, rfl⟩, ⟨rfl, rfl⟩, rfl, veq_d rfl, rfl, (show VEq0 (vi ((i : Int) + 1)) (vi ((i + 1 : Nat) : Int)) by rw [Int.natCast_add]; rfl), trivial⟩, ⟨polB_eq p, ⟨rfl, rfl⟩, bytes_eq (by rw [hsuc, ← List.append_assoc, tB_snoc]), trivial⟩, rfl⟩
  have h2 : i = p.outs.length := by have := of_decide_eq_false h2; omega
  subst h2
  rw [List.take_length]
  have he : (levW p.lev ++ flowW p.lev (coversM p.up) ++ chanW wInput p.lev p.ins ++ chanW wOutput p.lev p.outs) ++ [[wB wDepth, showV p.depth]] = printW p := by
    rw [List.append_assoc, List.append_assoc, List.append_assoc]; rfl
  have hsm := add_small hR (V := []) (by rw [List.append_nil]; exact he)
  have hd := hR.depth
  refine x.pure rfl trivial rfl (show_spec p.depth (by unfold inI64; omega)) ⟨rfl, trivial⟩ ?_
  refine x.op rfl trivial ?_
  refine Sx.Go.freeze 3 ?_
  refine x.call [1, 2] rfl trivial rfl (pline_spec (tB (levW p.lev ++ flowW p.lev (coversM p.up) ++ chanW wInput p.lev p.ins ++ chanW wOutput p.lev p.outs)) [wB wDepth, showV p.depth] (Nat.le_of_ble_eq_true rfl) (by unfold big6; omega)) rfl ⟨⟨rfl, fun _ => rfl, ev2 rfl rfl⟩, ⟨rfl, rfl⟩, trivial⟩ ⟨⟨rfl, rfl⟩, ⟨rfl, rfl, rfl, fun _ _ => rfl⟩, trivial⟩ ?_
  rw [← tB_snoc, he]
  refine x.call [1, 2] rfl trivial rfl (pstring_spec (tB (printW p))) rfl ⟨⟨rfl, rfl⟩, trivial⟩ ⟨⟨rfl, rfl⟩, ⟨rfl, rfl, rfl, fun _ _ => rfl⟩, trivial⟩ ?_
  refine x.exit rfl trivial ?_
  exact ⟨.inr rfl, ⟨rfl, rfl, trivial⟩, trivial, rfl⟩
end Go.Proofs.YtcdfjaaipbjpnaaDoor

/- Policies that are handed in, as data; a row whose walk wants the world's shape. -/
namespace Go.Proofs.YtcdfjaaipbjpnaaDoor
open Go.Sx
set_option linter.unusedVariables false
set_option linter.unusedSimpArgs false

theorem conf_lst {α : Type} {z : Nat} {τ : List DTy} {x : D} (d : α → List D) (P : α → Prop) (a0 : α) (each : ∀ ds, Conf τ ds → ∃ a, P a ∧ ds.length = (d a).length ∧ ∀ (j : Nat) (u u' : D), ds[j]? = some u → (d a)[j]? = some u' → DQ u u')
    (h : Conf1 (.sl z τ) x) : ∃ l : List α, DQ x (.sl τ.length l.length fun i => d (l.getD i a0)) ∧ (l.length ≤ maxLen ∧ l.length * z ≤ reachBytes) ∧ ∀ a ∈ l, P a := by
  cases h with
  | sl _ _ n f hn hz hl hc =>
    have each' : ∀ i, i < n → ∃ a, P a ∧ (f i).length = (d a).length ∧ ∀ (j : Nat) (u u' : D), (f i)[j]? = some u → (d a)[j]? = some u' → DQ u u' := fun i hi => each (f i) ⟨hl i hi, fun j t d ht hd => hc i j t d hi ht hd⟩
    let g : Nat → α := fun i => if h : i < n then Classical.choose (each' i h) else a0
    have hg : ∀ i, i < n → P (g i) ∧ (f i).length = (d (g i)).length ∧ ∀ (j : Nat) (u u' : D), (f i)[j]? = some u → (d (g i))[j]? = some u' → DQ u u' := fun i hi => by
      have e : g i = Classical.choose (each' i hi) := by simp only [g, hi, dite_true]
      rw [e]
      exact Classical.choose_spec (each' i hi)
    have hgd : ∀ i, i < n → ((List.range n).map g).getD i a0 = g i := fun i hi => by
      rw [List.getD_eq_getElem?_getD, List.getElem?_eq_getElem (by simpa using hi)]; simp
    refine ⟨(List.range n).map g, ?_, by simpa using ⟨hn, hz⟩, fun o ho => ?_⟩
    · rw [show ((List.range n).map g).length = n by simp]
      refine .sl _ n _ _ (fun i hi => ?_) fun i j u u' hi hd hd' => ?_
      · rw [hgd i hi]; exact (hg i hi).2.1
      · rw [hgd i hi] at hd'
        exact (hg i hi).2.2 j u u' hd hd'
    · obtain ⟨i, hi, rfl⟩ := List.mem_map.1 ho
      exact (hg i (List.mem_range.1 hi)).1
def StrZ (s : ByteArray) : Prop := s.size ≤ 140737488355328
theorem reach_z {s : ByteArray} (h : s.size ≤ reachBytes) : StrZ s := by
  have := reachBytes_lt
  unfold StrZ; omega
theorem wf_i64 {n : Int} (h : (Lit.int .i64 n).wf = true) : inI64 n := by
  simp only [Lit.wf, Bool.and_eq_true, decide_eq_true_eq] at h
  exact h
theorem wf_u64 {n : Int} (h : (Lit.int .u64 n).wf = true) : 0 ≤ n ∧ n ≤ 18446744073709551615 := by
  simp only [Lit.wf, Bool.and_eq_true, decide_eq_true_eq] at h
  exact h
structure PolOK (p : Pol) : Prop where
  sz : PolSz p
  lev : ∀ s ∈ p.lev, StrZ s
  ins : ∀ c ∈ p.ins, StrZ c.1 ∧ inI64 c.2
  outs : ∀ c ∈ p.outs, StrZ c.1 ∧ inI64 c.2
  depth : inI64 p.depth
theorem conf_ss {z : Nat} {x : D} (h : Conf1 (.sl z [.str]) x) : ∃ l : List ByteArray, DQ x (dSs l) ∧ (l.length ≤ maxLen ∧ l.length * z ≤ reachBytes) ∧ ∀ a ∈ l, StrZ a :=
  conf_lst (fun s => [D.str s]) StrZ .empty (fun ds ⟨hl, hc⟩ => by
    match ds, hl with
    | [d0], _ =>
      obtain ⟨s, rfl, h1, h2⟩ := conf_str (hc 0 _ _ rfl rfl)
      refine ⟨s, reach_z h2, rfl, fun j u u' hd hd' => ?_⟩
      match j with
      | 0 => simp at hd hd'; subst hd hd'; exact .refl _
      | j + 1 => simp at hd) h
theorem conf_up {z : Nat} {x : D} (h : Conf1 (.sl z [.int .u64]) x) : ∃ l : List M64, DQ x (dUp l) ∧ (l.length ≤ maxLen ∧ l.length * z ≤ reachBytes) ∧ ∀ a ∈ l, True :=
  conf_lst (fun m => [dm m]) (fun _ => True) 0#64 (fun ds ⟨hl, hc⟩ => by
    match ds, hl with
    | [d0], _ =>
      obtain ⟨n, rfl, h1⟩ := conf_int (hc 0 _ _ rfl rfl)
      have h2 := wf_u64 h1
      refine ⟨BitVec.ofInt 64 n, trivial, rfl, fun j u u' hd hd' => ?_⟩
      match j with
      | 0 =>
        simp only [List.getElem?_cons_zero, Option.some.injEq] at hd hd'
        subst hd hd'
        have e : ((BitVec.ofInt 64 n).toNat : Int) = n := by
          rw [BitVec.toNat_ofInt]; omega
        unfold dm
        rw [e]; exact .refl _
      | j + 1 => simp at hd) h
theorem conf_chs {z : Nat} {x : D} (h : Conf1 (.sl z [.str, .int .i64]) x) : ∃ l : List Chan, DQ x (dChs l) ∧ (l.length ≤ maxLen ∧ l.length * z ≤ reachBytes) ∧ ∀ a ∈ l, StrZ a.1 ∧ inI64 a.2 :=
  conf_lst (fun c : Chan => [D.str c.1, D.int .i64 c.2]) (fun c => StrZ c.1 ∧ inI64 c.2) chan0 (fun ds ⟨hl, hc⟩ => by
    match ds, hl with
    | [d0, d1], _ =>
      obtain ⟨s, rfl, h1, h2⟩ := conf_str (hc 0 _ _ rfl rfl)
      obtain ⟨n, rfl, h3⟩ := conf_int (hc 1 _ _ rfl rfl)
      refine ⟨(s, n), ⟨reach_z h2, wf_i64 h3⟩, rfl, fun j u u' hd hd' => ?_⟩
      match j with
      | 0 => simp at hd hd'; subst hd hd'; exact .refl _
      | 1 => simp at hd hd'; subst hd hd'; exact .refl _
      | j + 2 => simp at hd) h
abbrev polTy : List DTy := [.sl 16 [.str], .sl 8 [.int .u64], .sl 24 [.str, .int .i64], .sl 24 [.str, .int .i64], .int .i64]
theorem conf_polV {F : Nat → Prop} {w : World} {ρ : Nat → Value} {ds : List D} {cs : List Value} (h : Conf polTy ds) (hr : All2 (RD F w) ds cs) : ∃ x : Pol, PolOK x ∧ R3 ρ F w (vPol x) (.agg cs.toArray) := by
  obtain ⟨hl, hc⟩ := h
  match ds, hl, cs, hr with
  | [d0, d1, d2, d3, d4], _, [c0, c1, c2, c3, c4], ⟨r0, r1, r2, r3, r4, _⟩ =>
    obtain ⟨l0, q0, w0, z0⟩ := conf_ss (hc 0 _ _ rfl rfl)
    obtain ⟨l1, q1, w1, z1⟩ := conf_up (hc 1 _ _ rfl rfl)
    obtain ⟨l2, q2, w2, z2⟩ := conf_chs (hc 2 _ _ rfl rfl)
    obtain ⟨l3, q3, w3, z3⟩ := conf_chs (hc 3 _ _ rfl rfl)
    obtain ⟨n4, rfl, w4⟩ := conf_int (hc 4 _ _ rfl rfl)
    have := reachBytes_lt
    exact ⟨⟨l0, l1, l2, l3, n4⟩, ⟨⟨by show l0.length * 16 ≤ _; omega, by show l1.length * 8 ≤ _; omega, by show l2.length * 24 ≤ _; omega, by show l3.length * 24 ≤ _; omega⟩, z0, z2, z3, wf_i64 w4⟩, ⟨_, rfl, q0.sound r0, q1.sound r1, q2.sound r2, q3.sound r3, r4, trivial⟩⟩

/-- A row's claim from a walk that is told what the tables hold and that the world has the program's shape. -/
theorem returns_shaped {H : Type} {enc : TypeId × Value → H} {a : Assume} {C : Checked} {os : Os} {f : FuncId} {fn : Func} {s : ChangeSpec} {conds : List PathCond} {apart fresh handsOn again : Bool} {X : World → Array Value → Prop}
    (hX : ∀ (w w' : World) (args : Array Value), w.heap = w'.heap → X w args → X w' args)
    (own : ownKnob C.prog.godebug = none) (started : os.Started) (noInit : C.prog.inits.idxOf? f = none) (hfn : C.prog.funcs[f]? = some fn)
    (witness : ∃ (w : World) (tape : Tape) (i : Input), w.os = os ∧ (w.forCall tape i).Shaped C.prog ∧ i.vars = [] ∧ Input.okWide C.prog (w.forCall tape i) .any w.heap.size f i ∧
      ((s.pre enc C.prog fn conds apart (w.forCall tape i).memory i.args ∧ X (w.forCall tape i).memory i.args) ∧ sizedMet enc C.prog fn (OpenSpec.ofChange s) apart (w.forCall tape i).memory i.args) ∧ a.holds C.prog (lone (Frame.enter C.prog f i.args .normal) [] (w.forCall tape i)))
    (walk : ∀ (W : World) (base : Nat) (args : Array Value) (ds gs : List (DataW H)) (before : List MemPlace), W.ShapedOpen C.prog →
      (∀ (j : Nat) t v, fn.params[j]? = some t → args[j]? = some v → Value.okWide C.prog W .any base t v) →
      DataW.Whole enc C.prog fn.params.toList s.vars apart W args.toList ds gs before →
      conds.all (PathCond.test C.prog ⟨fn.params.toList, ds, s.plain.varTypes C.prog, gs⟩) = true →
      (DataW.weightsEach C.prog (fn.params.toList ++ s.plain.varTypes C.prog) (ds ++ gs)).all (· ≤ reachBytes) = true → X W args →
      a.holds C.prog (lone (Frame.enter C.prog f args .normal) [] W) →
      Calls C.prog f args W fun e W' => ∃ v, e = .returned v ∧ s.post enc C.prog fn apart fresh handsOn again W args v W') :
    ReturnsInHanded a C os f .any (fun w args => (s.pre enc C.prog fn conds apart w args ∧ X w args) ∧ sizedMet enc C.prog fn (OpenSpec.ofChange s) apart w args) (s.post enc C.prog fn apart fresh handsOn again) :=
  returnsInHanded_of_calls own started noInit witness fun w tape i _ hshape _ hin ⟨⟨⟨ds, gs, before, hwhole, hcond⟩, hx⟩, hz⟩ hh => by
    obtain ⟨_, _, _, fn', e, _, _, _, _, hv⟩ := hin
    cases hfn.symm.trans e
    refine (walk _ w.heap.size i.args ds gs before hshape hv (DataW.Whole.of_heap (w' := w.forCall tape i) (by rfl) hwhole) hcond (hz.weights hwhole) (hX _ _ _ (by rfl) hx) hh).mono ?_
    rintro e W' ⟨v, rfl, hp⟩
    exact ChangeSpec.post_blind hp
end Go.Proofs.YtcdfjaaipbjpnaaDoor

/- Policies: the law PolicyBack. -/
namespace Go.Proofs.YtcdfjaaipbjpnaaDoor
open Go.Sx
set_option linter.unusedVariables false
set_option linter.unusedSimpArgs false
set_option maxRecDepth 100000

theorem PolOK.z {p : Pol} (h : PolOK p) : PolZ p := ⟨h.sz, fun s hs => Nat.le_trans (h.lev s hs) (by decide), fun c hc => Nat.le_trans (h.ins c hc).1 (by decide), fun c hc => Nat.le_trans (h.outs c hc).1 (by decide)⟩
theorem PolR.z {p : Pol} (h : PolR p) : PolZ p := by
  have ho : orderM p.up = true := by have := h.up; unfold rightM at this; rw [Bool.and_eq_true] at this; exact this.1
  have hl := (order_len ho).2
  have h1 := h.len
  have h2 := h.il
  have h3 := h.ol
  exact ⟨⟨by omega, by omega, by omega, by omega⟩, fun s hs => by have := (gw_name (h.names s hs)).2.1; omega, fun c hc => by have := (gw_name (h.iok c hc).1).2.1; omega, fun c hc => by have := (gw_name (h.ook c hc).1).2.1; omega⟩
theorem parse_no {s : ByteArray} (h : (parseP s).2.2 ≠ 0) : (parseP s).1 = pol0 := by
  revert h
  unfold parseP
  split
  · intro _; rfl
  · split
    · intro _; rfl
    · split
      · intro _; rfl
      · unfold endR
        split
        · intro _; rfl
        · split
          · intro h; exact absurd rfl h
          · intro _; rfl
theorem print_yes {p : Pol} (h : PolR p) : printPol p = (tB (printW p), 0) := by unfold printPol; rw [if_pos ((right_iff p).2 h)]
theorem print_r {p : Pol} (h : (printPol p).2 = 0) : PolR p := by
  refine (right_iff p).1 (Classical.byContradiction fun e => ?_)
  unfold printPol at h
  rw [if_neg e] at h
  cases h
theorem tB_i64 {p : Pol} (h : PolR p) : (tB (printW p)).size ≤ 9223372036854775807 := by
  have := tB_small h (List.append_nil (printW p)); omega
set_option maxHeartbeats 4000000 in
theorem back_spec (p : Pol) (hz : PolZ p) (s : ByteArray) (hs : s.size ≤ 9223372036854775807) : Pure PG 6 [vPol p, vs s] (vb true) [] := by
  refine Proc.mk (cfg 84) tysOK [] Tryd.func6 rfl (by kernel_rfl) rfl rfl rfl ?_
  intro C x
  refine x.pure rfl trivial rfl (copy6_spec p hz.toPolSz) ⟨⟨veq0_d rfl, veq0_d rfl, veq0_d rfl, veq0_d rfl, rfl, trivial⟩, trivial⟩ ?_
  refine x.pure rfl trivial rfl (pprint_spec p hz) ⟨⟨veq0_d rfl, veq0_d rfl, veq0_d rfl, veq0_d rfl, rfl, trivial⟩, trivial⟩ ?_
  refine x.cond rfl trivial (fun h1 => ?_) (fun h1 => ?_)
  have h1 : (printPol p).2 = 0 := of_decide_eq_true h1
  have hp := print_r h1
  rw [print_yes hp]
  have hb := parse_print hp (tB_l (printW p))
  refine x.pure rfl trivial rfl (parse6_spec (tB (printW p)) (tB_i64 hp)) ⟨rfl, trivial⟩ ?_
  rw [hb]
  refine x.pureG rfl trivial rfl (fun _ => same6_spec p hz.toPolSz) rfl ⟨⟨veq0_d rfl, veq0_d rfl, veq0_d rfl, veq0_d rfl, rfl, trivial⟩, ⟨veq0_d rfl, veq0_d rfl, veq0_d rfl, veq0_d rfl, rfl, trivial⟩, trivial⟩ ?_
  refine x.cond rfl trivial (fun h2 => ?_) (fun h2 => ?_)
  · cases (show false = true from h2)
  all_goals
    refine x.pure rfl trivial rfl (parse6_spec s hs) ⟨rfl, trivial⟩ ?_
    refine x.cond rfl trivial (fun h3 => ?_) (fun h3 => ?_)
    · have h3 : (!decide ((parseP s).2.2 = 0)) = true := h3
      have h3 : (parseP s).2.2 ≠ 0 := by simpa using h3
      rw [parse_no h3]
      refine x.pureG rfl trivial rfl (fun _ => awake6_spec) rfl trivial ?_
      exact x.exit rfl trivial ⟨.inr rfl, rfl, trivial, rfl⟩
    · have h3 : (!decide ((parseP s).2.2 = 0)) = false := h3
      have h3 : (parseP s).2.2 = 0 := by simpa using h3
      have hR := parse_right h3
      obtain ⟨q, hq⟩ : ∃ q, (parseP s).1 = q := ⟨_, rfl⟩
      rw [hq] at hR ⊢
      have hb := parse_print hR (tB_l (printW q))
      refine x.pure rfl trivial rfl (pprint_spec q hR.z) ⟨⟨veq0_d rfl, veq0_d rfl, veq0_d rfl, veq0_d rfl, rfl, trivial⟩, trivial⟩ ?_
      rw [print_yes hR]
      refine x.pure rfl trivial rfl (parse6_spec (tB (printW q)) (tB_i64 hR)) ⟨rfl, trivial⟩ ?_
      rw [hb]
      refine x.pure rfl trivial rfl (pright_spec q hR.z) ⟨⟨veq0_d rfl, veq0_d rfl, veq0_d rfl, veq0_d rfl, rfl, trivial⟩, trivial⟩ ?_
      rw [(right_iff q).2 hR]
      refine x.pureG rfl trivial rfl (fun _ => same6_spec q hR.z.toPolSz) rfl ⟨⟨veq0_d rfl, veq0_d rfl, veq0_d rfl, veq0_d rfl, rfl, trivial⟩, ⟨veq0_d rfl, veq0_d rfl, veq0_d rfl, veq0_d rfl, rfl, trivial⟩, trivial⟩ ?_
      refine x.pureG rfl trivial rfl (fun _ => awake6_spec) rfl trivial ?_
      exact x.exit rfl trivial ⟨.inr rfl, rfl, trivial, rfl⟩
end Go.Proofs.YtcdfjaaipbjpnaaDoor

/- Policies: the law PolicyTurns. -/
namespace Go.Proofs.YtcdfjaaipbjpnaaDoor
open Go.Sx
set_option linter.unusedVariables false
set_option linter.unusedSimpArgs false
set_option maxRecDepth 100000

/-! ### lines of a text -/
/-- Does a line name a level? -/
def levL (l : List UInt8) : Bool := decide (6 < l.length) && decide (l.take 6 = [108, 101, 118, 101, 108, 32])
/-- The lines before (levels), and behind (the others, the last first); what is under way. -/
def turnG : List UInt8 → List UInt8 → List UInt8 → List UInt8 → List UInt8 × List UInt8
  | _, hd, ta, [] => (hd, ta)
  | cur, hd, ta, b :: r => if b = 10 then (if levL (cur ++ [10]) then turnG [] (hd ++ (cur ++ [10])) ta r else turnG [] hd ((cur ++ [10]) ++ ta) r) else turnG (cur ++ [b]) hd ta r
theorem turnG_line : ∀ (l cur hd ta r : List UInt8), (∀ b ∈ l, b ≠ 10) → turnG cur hd ta (l ++ 10 :: r) = if levL ((cur ++ l) ++ [10]) then turnG [] (hd ++ ((cur ++ l) ++ [10])) ta r else turnG [] hd (((cur ++ l) ++ [10]) ++ ta) r
  | [], cur, hd, ta, r, _ => by rw [List.nil_append, turnG, if_pos rfl, List.append_nil]
  | b :: l, cur, hd, ta, r, h => by
    rw [List.cons_append, turnG, if_neg (h b (.head _)), turnG_line l (cur ++ [b]) hd ta r fun x hx => h x (.tail _ hx), List.append_assoc cur [b] l]
    rfl
theorem turnG_text : ∀ (W : List (List ByteArray)) (hd ta : List UInt8), (∀ ws ∈ W, GL ws) → turnG [] hd ta (textL W) = (hd ++ textL (W.filter fun ws => levL (joinL ws ++ [10])), textL (W.filter fun ws => !levL (joinL ws ++ [10])).reverse ++ ta)
  | [], hd, ta, _ => by simp [textL, turnG]
  | ws :: W, hd, ta, h => by
    obtain ⟨_, _, _, hg, _⟩ := h ws (.head _)
    have e : textL (ws :: W) = joinL ws ++ 10 :: textL W := by simp [textL]
    rw [e, turnG_line _ _ _ _ _ (join_no ws hg), List.nil_append]
    have ih := fun hd ta => turnG_text W hd ta fun x hx => h x (.tail _ hx)
    cases hl : levL (joinL ws ++ [10]) with
    | true =>
      rw [if_pos rfl, ih]
      simp [hl, textL, List.append_assoc]
    | false =>
      rw [if_neg (by simp), ih]
      simp [hl, textL, List.append_assoc]
theorem lev_yes (s : ByteArray) (h : tl s ≠ []) : levL (joinL [wB wLevel, s] ++ [10]) = true := by
  have : 0 < (tl s).length := List.length_pos_iff.2 h
  unfold levL
  rw [Bool.and_eq_true, decide_eq_true_eq, decide_eq_true_eq]
  constructor
  · show 6 < (wLevel ++ 32 :: (tl s ++ [10])).length
    simp [wLevel]
  · show List.take 6 (wLevel ++ 32 :: (tl s ++ [10])) = _
    rfl
theorem lev_no {k : List UInt8} (hk : k ∈ [wFlow, wInput, wOutput, wDepth]) (v : ByteArray) (r : List ByteArray) : levL (joinL (wB k :: v :: r) ++ [10]) = false := by
  unfold levL
  rw [Bool.and_eq_false_iff]
  right
  rw [decide_eq_false_iff_not]
  intro e
  have e2 : ∀ k : List UInt8, List.take 6 (joinL (wB k :: v :: r) ++ [10]) = List.take 6 ((k ++ 32 :: joinL (v :: r)) ++ [10]) := fun k => by
    rw [joinL, show tl (wB k) = k by simp [tl, wB]]
  rw [e2] at e
  simp only [List.mem_cons, List.not_mem_nil, or_false] at hk
  rcases hk with rfl | rfl | rfl | rfl <;> simp [wFlow, wInput, wOutput, wDepth] at e
theorem turn_text {p : Pol} (h : PolR p) : turnG [] [] [] (textL (printW p)) = (textL (levW p.lev), textL (turnW p |>.drop p.lev.length)) := by
  obtain ⟨g1, _, _, _⟩ := print_ok h
  rw [turnG_text (printW p) [] [] g1]
  have hl : ∀ ws ∈ levW p.lev, levL (joinL ws ++ [10]) = true := fun ws hws => by
    obtain ⟨s, hs, rfl⟩ := List.mem_map.1 hws
    exact lev_yes s (gw_name (h.names s hs)).1.ne
  have hr : ∀ ws ∈ flowW p.lev (coversM p.up) ++ (chanW wInput p.lev p.ins ++ (chanW wOutput p.lev p.outs ++ depW p.depth)), levL (joinL ws ++ [10]) = false := fun ws hws => by
    simp only [List.mem_append] at hws
    rcases hws with q | q | q | q
    · obtain ⟨c, _, rfl⟩ := List.mem_map.1 q; exact lev_no (by simp) _ _
    · obtain ⟨c, _, rfl⟩ := List.mem_map.1 q; exact lev_no (by simp) _ _
    · obtain ⟨c, _, rfl⟩ := List.mem_map.1 q; exact lev_no (by simp) _ _
    · obtain rfl := List.mem_singleton.1 q; exact lev_no (by simp) _ _
  have e1 : (printW p).filter (fun ws => levL (joinL ws ++ [10])) = levW p.lev := by
    unfold printW
    rw [List.filter_append, List.filter_eq_self.2 hl, List.filter_eq_nil_iff.2 fun ws hws => by rw [hr ws hws]; simp, List.append_nil]
  have e2 : (printW p).filter (fun ws => !levL (joinL ws ++ [10])) = flowW p.lev (coversM p.up) ++ (chanW wInput p.lev p.ins ++ (chanW wOutput p.lev p.outs ++ depW p.depth)) := by
    unfold printW
    rw [List.filter_append, List.filter_eq_nil_iff.2 fun ws hws => by rw [hl ws hws]; simp, List.filter_eq_self.2 fun ws hws => by rw [hr ws hws]; rfl, List.nil_append]
  have e3 : (turnW p).drop p.lev.length = (flowW p.lev (coversM p.up) ++ (chanW wInput p.lev p.ins ++ (chanW wOutput p.lev p.outs ++ depW p.depth))).reverse := by
    unfold turnW
    rw [show p.lev.length = (levW p.lev).length by simp [levW], List.drop_left]
    simp only [List.reverse_append, flowW_rev, chanW_rev, List.append_assoc]
    rfl
  rw [e1, e2, e3, List.nil_append, List.append_nil]
theorem turn_whole {p : Pol} : textL (levW p.lev) ++ textL ((turnW p).drop p.lev.length) = textL (turnW p) := by
  rw [← textL_app]
  congr 1
  unfold turnW
  rw [show p.lev.length = (levW p.lev).length by simp [levW], List.drop_left]

/-! ### the walk -/
theorem sb_byt (s : ByteArray) (i : Nat) (c : UInt8) : sb s i = (c.toNat : Int) ↔ byt s i = c := by
  rw [sb_bt, ← byt_bt, ← UInt8.toNat_inj]; omega
structure TS (s : ByteArray) where
  i : Nat
  fro : Nat
  hd : ByteArray
  ta : ByteArray
  hi : i ≤ s.size
  hf : fro ≤ i
  hz : hd.size + ta.size + (i - fro) = i
  same : turnG (tl (s.extract fro i)) (tl hd) (tl ta) ((tl s).drop i) = turnG [] [] [] (tl s)
theorem take6 (l : ByteArray) (h : 6 < l.size) : (decide (tl (l.extract 0 6) = [108, 101, 118, 101, 108, 32])) = levL (tl l) := by
  unfold levL
  rw [show (tl l).length = l.size from size_l l, decide_eq_true h, Bool.true_and, decide_eq_decide, show tl (l.extract 0 6) = (tl l).take 6 from ext_l l 0 6]
theorem rev_get {α : Type} (l : List α) (a0 : α) {i : Nat} (h : i < l.length) : l.reverse.getD (l.length - 1 - i) a0 = l.getD i a0 := by
  rw [List.getD_eq_getElem?_getD, List.getD_eq_getElem?_getD, List.getElem?_reverse (by omega)]
  congr 2
  omega
set_option maxHeartbeats 8000000 in
theorem turns_spec (p : Pol) (hz : PolZ p) : Pure PG 7 [vPol p] (vb true) [] := by
  refine Proc.mk (cfg 141) tysOK [] Tryd.func7 rfl (by kernel_rfl) rfl rfl rfl ?_
  intro C x
  refine x.pure rfl trivial rfl (copy6_spec p hz.toPolSz) ⟨⟨veq0_d rfl, veq0_d rfl, veq0_d rfl, veq0_d rfl, rfl, trivial⟩, trivial⟩ ?_
  refine x.pure rfl trivial rfl (pprint_spec p hz) ⟨⟨veq0_d rfl, veq0_d rfl, veq0_d rfl, veq0_d rfl, rfl, trivial⟩, trivial⟩ ?_
  refine x.cond rfl trivial (fun h1 => ?_) (fun h1 => ?_)
  · refine x.pure rfl trivial rfl awake6_spec trivial ?_
    exact x.exit rfl trivial ⟨.inr rfl, rfl, trivial, rfl⟩
  have h1 : (!decide ((printPol p).2 = 0)) = false := h1
  have h1 : (printPol p).2 = 0 := by simpa using h1
  have hp := print_r h1
  rw [print_yes hp]
  obtain ⟨s, hs⟩ : ∃ s, tB (printW p) = s := ⟨_, rfl⟩
  have hsl : tl s = textL (printW p) := by rw [← hs]; exact tB_l _
  have hsz : s.size ≤ 65536 := by have := tB_small hp (List.append_nil (printW p)); rw [← hs]; exact this
  rw [hs]
  refine x.loop (α := TS s) (fun y => ⟨[(1, .ptr 0 0), (3, vs s), (5, vs y.hd), (6, vs y.ta), (7, vi (y.fro : Int)), (8, vi (y.i : Int))], [(0, polB p)], 1⟩) (fun y => s.size - y.i) ⟨0, 0, .empty, .empty, Nat.zero_le _, Nat.le_refl _, rfl, by rw [List.drop_zero, show tl (s.extract 0 0) = [] from by rw [tl, ext_l, Nat.sub_self, List.take_zero]]; rfl⟩ rfl trivial ⟨⟨⟨rfl, rfl⟩, rfl, rfl, rfl, rfl, rfl, trivial⟩, ⟨polB_eq p, trivial⟩, rfl⟩ (fun y => ?_)
  obtain ⟨i, fro, hd, ta, hi, hf, hzz, same⟩ := y
  change Go C _ ⟨[(1, .ptr 0 0), (3, vs s), (5, vs hd), (6, vs ta), (7, vi (fro : Int)), (8, vi (i : Int))], [(0, polB p)], 1⟩ _
  refine x.cond rfl trivial (fun h2 => ?_) (fun h2 => ?_)
  · have h2 : i < s.size := by have := of_decide_eq_true h2; omega
    rw [show (tl s).drop i = byt s i :: (tl s).drop (i + 1) from drop_byt h2, turnG] at same
    refine x.cond rfl (by simp only [AllP]; omega) (fun h3 => ?_) (fun h3 => ?_)
    · have h3 : (!decide (sb s i = 10)) = true := h3
      have h10 : ¬ byt s i = 10 := fun e => by
        have := (sb_byt s i 10).2 e
        rw [show sb s i = 10 from this] at h3; cases h3
      rw [if_neg h10] at same
      refine x.back rfl (by simp only [AllP, inI64]; omega) ⟨⟨i + 1, fro, hd, ta, by omega, by omega, by omega, ?_⟩, by show s.size - (i + 1) < s.size - i; omega, ⟨⟨rfl, rfl⟩, rfl, rfl, rfl, rfl, (show VEq0 (vi ((i : Int) + 1)) (vi ((i + 1 : Nat) : Int)) by rw [Int.natCast_add]; rfl), trivial⟩, ⟨polB_eq p, trivial⟩, rfl⟩
      rw [← same]
      congr 1
      have := ext_more (s := s) (a := fro) (p := i) (w := 1) hf (by omega)
      rw [drop_byt h2] at this
      exact this
    · have h3 : (!decide (sb s i = 10)) = false := h3
      have h10 : byt s i = 10 := (sb_byt s i 10).1 (by simpa using h3)
      rw [if_pos h10] at same
      obtain ⟨l, hl⟩ : ∃ l, s.extract fro (i + 1) = l := ⟨_, rfl⟩
      have hll : tl (s.extract fro i) ++ [10] = tl l := by
        have := ext_more (s := s) (a := fro) (p := i) (w := 1) hf (by omega)
        rw [drop_byt h2, h10] at this
        rw [← hl]; exact this.symm
      have hlz : l.size = i + 1 - fro := by rw [← hl, ByteArray.size_extract]; omega
      rw [hll] at same
      have e0 : tl (s.extract (i + 1) (i + 1)) = [] := by rw [tl, ext_l, Nat.sub_self, List.take_zero]
      have ei : ((i : Int) + 1).toNat = i + 1 := rfl
      have el : s.extract (fro : Int).toNat ((i : Int) + 1).toNat = l := by rw [ei]; exact hl
      have key : (decide (6 < ((s.extract (fro : Int).toNat ((i : Int) + 1).toNat).size : Int)) && decide (((s.extract (fro : Int).toNat ((i : Int) + 1).toNat).extract 0 6).data.toList = [108, 101, 118, 101, 108, 32])) = levL (tl l) := by
        rw [el]
        by_cases h6 : 6 < l.size
        · rw [decide_eq_true (show (6 : Int) < l.size by omega), Bool.true_and]; exact take6 l h6
        · rw [decide_eq_false (show ¬ (6 : Int) < l.size by omega), Bool.false_and, levL, size_l, decide_eq_false h6]; rfl
      refine x.cond rfl ?_ (fun h4 => ?_) (fun h4 => ?_)
      · simp only [AllP, inI64, decide_eq_true_eq]; omega
      · have hv : levL (tl l) = true := by rw [← key]; exact h4
        rw [if_pos hv] at same
        refine x.back rfl ?_ ⟨⟨i + 1, i + 1, hd ++ l, ta, by omega, by omega, by rw [app_size]; omega, by rw [e0, tl, app_data]; exact same⟩, by show s.size - (i + 1) < s.size - i; omega, ?_⟩
        · simp only [AllP, inI64, app_size, el]; omega
        · refine ⟨⟨⟨rfl, rfl⟩, rfl, ?_, rfl, (show VEq0 (vi ((i : Int) + 1)) (vi ((i + 1 : Nat) : Int)) by rw [Int.natCast_add]; rfl), (show VEq0 (vi ((i : Int) + 1)) (vi ((i + 1 : Nat) : Int)) by rw [Int.natCast_add]; rfl), trivial⟩, ⟨polB_eq p, trivial⟩, rfl⟩
          show VEq0 (vs (hd ++ s.extract (fro : Int).toNat ((i : Int) + 1).toNat)) (vs (hd ++ l))
          rw [el]; exact rfl
      · have hv : levL (tl l) = false := by rw [← key]; exact h4
        rw [if_neg (by rw [hv]; simp)] at same
        refine x.back rfl ?_ ⟨⟨i + 1, i + 1, hd, l ++ ta, by omega, by omega, by rw [app_size]; omega, by rw [e0, show tl (l ++ ta) = tl l ++ tl ta from app_data _ _]; exact same⟩, by show s.size - (i + 1) < s.size - i; omega, ?_⟩
        · simp only [AllP, inI64, app_size, el]; omega
        · refine ⟨⟨⟨rfl, rfl⟩, rfl, rfl, ?_, (show VEq0 (vi ((i : Int) + 1)) (vi ((i + 1 : Nat) : Int)) by rw [Int.natCast_add]; rfl), (show VEq0 (vi ((i : Int) + 1)) (vi ((i + 1 : Nat) : Int)) by rw [Int.natCast_add]; rfl), trivial⟩, ⟨polB_eq p, trivial⟩, rfl⟩
          show VEq0 (vs (s.extract (fro : Int).toNat ((i : Int) + 1).toNat ++ ta)) (vs (l ++ ta))
          rw [el]; exact rfl
  have h2 : i = s.size := by have := of_decide_eq_false h2; omega
  subst h2
  rw [List.drop_eq_nil_of_le (by rw [size_l]; exact Nat.le_refl _), turnG, hsl, turn_text hp] at same
  obtain ⟨q1, q2⟩ := Prod.mk.injEq .. ▸ same
  have hw : tl (hd ++ ta) = textL (turnW p) := by rw [tl, app_data, show hd.data.toList = _ from q1, show ta.data.toList = _ from q2]; exact turn_whole
  have hT := parse_turn hp hw
  refine x.pure rfl (by simp only [AllP, app_size]; omega) rfl (parse6_spec (hd ++ ta) (by rw [app_size]; omega)) ⟨rfl, trivial⟩ ?_
  rw [hT]
  obtain ⟨i1, i2, i3, i4⟩ := polSz_i64 hz.toPolSz
  unfold inI64 at i1 i2 i3 i4
  have hb : ∀ q : Pol, ChEq (polB q) (polB q) := polB_eq
  obtain ⟨q, hq⟩ : ∃ q : Pol, (⟨p.lev, p.up, p.ins.reverse, p.outs.reverse, p.depth⟩ : Pol) = q := ⟨_, rfl⟩
  have e1 : q.ins = p.ins.reverse := by rw [← hq]
  have e2 : q.outs = p.outs.reverse := by rw [← hq]
  have e3 : q.depth = p.depth := by rw [← hq]
  have e4 : q.up = p.up := by rw [← hq]
  have l1 : q.ins.length = p.ins.length := by rw [e1, List.length_reverse]
  have l2 : q.outs.length = p.outs.length := by rw [e2, List.length_reverse]
  have l4 : q.up.length = p.up.length := by rw [e4]
  rw [hq]
  refine x.cond rfl trivial (fun h4 => ?_) (fun h4 => ?_)
  · exfalso; revert h4
    simp [l1, l2, e3]
  refine x.loop (α := { i : Nat // i ≤ p.ins.length }) (fun y => ⟨[(1, .ptr 0 0), (10, .ptr 1 0), (13, vi (y.1 : Int))], [(0, polB p), (1, polB q)], 2⟩) (fun y => p.ins.length - y.1) ⟨0, Nat.zero_le _⟩ rfl trivial ⟨⟨⟨rfl, rfl⟩, ⟨rfl, rfl⟩, rfl, trivial⟩, ⟨polB_eq p, polB_eq q, trivial⟩, rfl⟩ (fun y => ?_)
  obtain ⟨i, hi⟩ := y
  change Go C _ ⟨[(1, .ptr 0 0), (10, .ptr 1 0), (13, vi (i : Int))], [(0, polB p), (1, polB q)], 2⟩ _
  refine x.cond rfl trivial (fun h5 => ?_) (fun h5 => ?_)
  · have h5 : i < p.ins.length := by have := of_decide_eq_true h5; omega
    refine x.quiet rfl trivial mixedP (by kernel_rfl) ?_
    refine x.qdone rfl (by simp only [AllP, inI64, l1]; omega) ?_
    have eg : q.ins.getD ((p.ins.length : Int) - 1 - (i : Int)).toNat chan0 = p.ins.getD i chan0 := by
      rw [show ((p.ins.length : Int) - 1 - (i : Int)).toNat = p.ins.length - 1 - i by omega, e1]
      exact rev_get p.ins chan0 h5
    refine x.cond rfl trivial (fun h6 => ?_) (fun h6 => ?_)
    · exfalso; revert h6
      have eg3 : q.ins[p.ins.length - 1 - i]?.getD chan0 = p.ins[i]?.getD chan0 := by
        rw [← List.getD_eq_getElem?_getD, ← List.getD_eq_getElem?_getD, ← eg]
        congr 1; omega
      simp [eg3]
    refine x.back rfl (by simp only [AllP, inI64]; omega) ⟨⟨i + 1, by omega⟩, by show p.ins.length - (i + 1) < p.ins.length - i; omega, ⟨⟨rfl, rfl⟩, ⟨rfl, rfl⟩, (show VEq0 (vi ((i : Int) + 1)) (vi ((i + 1 : Nat) : Int)) by rw [Int.natCast_add]; rfl), trivial⟩, ⟨polB_eq p, polB_eq q, trivial⟩, rfl⟩
  refine x.loop (α := { i : Nat // i ≤ p.up.length }) (fun y => ⟨[(1, .ptr 0 0), (10, .ptr 1 0), (14, vi (y.1 : Int))], [(0, polB p), (1, polB q)], 2⟩) (fun y => p.up.length - y.1) ⟨0, Nat.zero_le _⟩ rfl trivial ⟨⟨⟨rfl, rfl⟩, ⟨rfl, rfl⟩, rfl, trivial⟩, ⟨polB_eq p, polB_eq q, trivial⟩, rfl⟩ (fun y => ?_)
  obtain ⟨k, hk⟩ := y
  change Go C _ ⟨[(1, .ptr 0 0), (10, .ptr 1 0), (14, vi (k : Int))], [(0, polB p), (1, polB q)], 2⟩ _
  refine x.cond rfl trivial (fun h6 => ?_) (fun h6 => ?_)
  · have h6 : k < p.up.length := by have := of_decide_eq_true h6; omega
    refine x.quiet rfl trivial mixedP (by kernel_rfl) ?_
    refine x.qdone rfl (by simp only [AllP, l4]; exact ⟨fun _ => by omega, fun _ => by omega⟩) ?_
    refine x.cond rfl trivial (fun h7 => ?_) (fun h7 => ?_)
    · exfalso; revert h7
      simp [l4, e4]
    refine x.back rfl (by simp only [AllP, inI64]; omega) ⟨⟨k + 1, by omega⟩, by show p.up.length - (k + 1) < p.up.length - k; omega, ⟨⟨rfl, rfl⟩, ⟨rfl, rfl⟩, (show VEq0 (vi ((k : Int) + 1)) (vi ((k + 1 : Nat) : Int)) by rw [Int.natCast_add]; rfl), trivial⟩, ⟨polB_eq p, polB_eq q, trivial⟩, rfl⟩
  refine x.pure rfl trivial rfl awake6_spec trivial ?_
  exact x.exit rfl trivial ⟨.inr rfl, rfl, trivial, rfl⟩
end Go.Proofs.YtcdfjaaipbjpnaaDoor
