/- Texts put together: T26P, T01S, T01V, T26B, T06H, T26C, T01C, T01O, T01Q, T06T, T27A, T27B, T27C. -/
import Derived.Test.YtcdfjaaipbjpnaaGreatDoorMC
import Derived.Test.YtcdfjaaipbjpnaaGreatDoorMA
import Derived.Test.YtcdfjaaipbjpnaaGreatDoorSxE
import Derived.Test.YtcdfjaaipbjpnaaGreatDoorMB
import Derived.Test.YtcdfjaaipbjpnaaGreatDoorShelf
import Derived.Test.YtcdfjaaipbjpnaaGreatDoorSxF
import Derived.Handed
import Derived.Shelf.Vars

/- Policies, plain: what is written is read as that. -/
namespace Go.Proofs.YtcdfjaaipbjpnaaGreatDoor
open Go.Sx
set_option linter.unusedVariables false
set_option linter.unusedSimpArgs false
set_option maxRecDepth 100000

/-! ### names -/
theorem letB_dec {sz p a b c d : Nat} (ha : a < 256) (h : letB ((dec sz p a b c d).1 : Int) = true ∨ digB ((dec sz p a b c d).1 : Int) = true) : (dec sz p a b c d).2 ≤ 2 ∧ a ≠ 10 ∧ a ≠ 32 ∧ a ≠ 9 ∧ a ≠ 35 ∧ (1 < (dec sz p a b c d).2 → 127 < b) := by
  have hr : ((dec sz p a b c d).1 ≤ 969 ∧ 48 ≤ (dec sz p a b c d).1) := by
    unfold letB digB at h
    simp only [Bool.or_eq_true, Bool.and_eq_true, decide_eq_true_eq] at h
    omega
  revert hr
  unfold dec
  repeat' split
  all_goals dsimp only
  all_goals omega
theorem nameW_facts (s : ByteArray) : ∀ (n p : Nat) (c : Int), s.size ≤ p + n → 0 ≤ c → c ≤ 24 → nameW s n p c = true → (s.size : Int) ≤ p + 2 * (24 - c) ∧ ∀ k, p ≤ k → k < s.size → bt s k ≠ 10 ∧ bt s k ≠ 32 ∧ bt s k ≠ 9 ∧ bt s k ≠ 35
  | 0, p, c, h, _, _, _ => ⟨by omega, fun k h1 h2 => by omega⟩
  | n + 1, p, c, h, h0, h1, hw => by
    rw [nameW] at hw
    split at hw
    · rename_i hp
      split at hw
      · cases hw
      · rename_i hg
        split at hw
        · cases hw
        · have hd := decode_pos s p
          obtain ⟨i1, i2⟩ := nameW_facts s n (p + (Utf8.decode s p).2) (c + 1) (by omega) (by omega) (by omega) hw
          have hg : letB ((Utf8.decode s p).1 : Int) = true ∨ digB ((Utf8.decode s p).1 : Int) = true := by
            cases e1 : letB ((Utf8.decode s p).1 : Int) with
            | true => exact .inl rfl
            | false =>
              cases e2 : digB ((Utf8.decode s p).1 : Int) with
              | true => exact .inr rfl
              | false => rw [e1, e2] at hg; simp at hg
          rw [decode_eq] at hg
          have := letB_dec (bt_lt s p) hg
          rw [← decode_eq] at this
          refine ⟨by omega, fun k k1 k2 => ?_⟩
          by_cases e : k = p
          · subst e; exact ⟨this.2.1, this.2.2.1, this.2.2.2.1, this.2.2.2.2.1⟩
          · by_cases e1 : p + (Utf8.decode s p).2 ≤ k
            · exact i2 k e1 k2
            · have e3 : k = p + 1 := by omega
              have := this.2.2.2.2.2 (by omega)
              rw [e3]; omega
    · exact ⟨by omega, fun k h1 h2 => by omega⟩
theorem nameW_ok (s : ByteArray) : ∀ (n p : Nat) (c : Int), nameW s n p c = true → (dl s n p).all okR = true
  | 0, p, c, _ => rfl
  | n + 1, p, c, hw => by
    rw [nameW] at hw
    rw [dl]
    split at hw
    · rename_i hp
      rw [if_pos hp]
      split at hw
      · cases hw
      · rename_i hg
        split at hw
        · cases hw
        · rw [List.all_cons, nameW_ok s n _ _ hw, Bool.and_true]
          unfold okR
          by_cases e : (Utf8.decode s p).1 = 65533
          · rw [e, show letB ((65533 : Nat) : Int) = false from by decide, show digB ((65533 : Nat) : Int) = false from by decide] at hg
            simp at hg
          · simp [e]
    · rename_i hp
      rw [if_neg hp]; rfl
/-- What a word of a line must be. -/
structure GW (w : ByteArray) : Prop where
  ne : tl w ≠ []
  no : ∀ b ∈ tl w, b ≠ 10 ∧ blkB b = false
  ok : okB (tl w) = true
theorem gw_name {s : ByteArray} (h : nameB s = true) : GW s ∧ s.size ≤ 48 ∧ sb s 0 ≠ 35 := by
  unfold nameB at h
  rw [Bool.and_eq_true] at h
  have h := h.1
  obtain ⟨h1, h2⟩ := nameW_facts s s.size 0 0 (by omega) (by omega) (by omega) h
  have hne : s.size ≠ 0 := fun e => by
    rw [e] at h
    exact absurd h (by rw [nameW]; decide)
  have hok : badV s s.size 0 < 0 := (bad_rl s).2.2 (nameW_ok s s.size 0 0 h)
  refine ⟨⟨fun e => hne ((tl_nil s).1 e), fun b hb => ?_, ?_⟩, by omega, ?_⟩
  · obtain ⟨k, hk, rfl⟩ := List.getElem_of_mem hb
    rw [size_l] at hk
    have := h2 k (Nat.zero_le _) hk
    have e : (tl s)[k]'(by rw [size_l]; exact hk) = byt s k := by
      unfold byt
      rw [List.getD_eq_getElem?_getD, List.getElem?_eq_getElem (by rw [size_l]; exact hk)]; rfl
    rw [e]
    refine ⟨fun q => this.1 (by rw [← byt_bt, q]; rfl), ?_⟩
    cases q : blkB (byt s k) with
    | false => rfl
    | true => have := (blk_bt s k).1 q; omega
  · have := ok_bad s
    cases q : okB (tl s) with
    | true => rfl
    | false => have := this.2 q; omega
  · have := h2 0 (Nat.le_refl _) (by omega)
    rw [sb_bt]; omega

/-! ### lines of words -/
def joinL : List ByteArray → List UInt8
  | [] => []
  | [w] => tl w
  | w :: v :: r => tl w ++ 32 :: joinL (v :: r)
def textL (W : List (List ByteArray)) : List UInt8 := W.flatMap fun ws => joinL ws ++ [10]
theorem words_join : ∀ ws : List ByteArray, (∀ w ∈ ws, GW w) → wordsG [] (joinL ws) = ws.map tl
  | [], _ => rfl
  | [w], h => by
    have hw := h w (.head _)
    have := wordsG_more (tl w) [] [] fun b hb => (hw.no b hb).2
    rw [List.append_nil, List.nil_append] at this
    rw [joinL, this, wordsG, if_neg hw.ne]; rfl
  | w :: v :: r, h => by
    have hw := h w (.head _)
    rw [joinL, wordsG_more (tl w) [] _ fun b hb => (hw.no b hb).2, List.nil_append, wordsG, if_pos (show blkB 32 = true from by decide), if_neg hw.ne, words_join (v :: r) fun x hx => h x (.tail _ hx)]
    rfl
theorem join_no : ∀ ws : List ByteArray, (∀ w ∈ ws, GW w) → ∀ b ∈ joinL ws, b ≠ 10
  | [], _, b, hb => by cases hb
  | [w], h, b, hb => ((h w (.head _)).no b hb).1
  | w :: v :: r, h, b, hb => by
    rw [joinL] at hb
    rcases List.mem_append.1 hb with hb | hb
    · exact ((h w (.head _)).no b hb).1
    · rcases List.mem_cons.1 hb with rfl | hb
      · decide
      · exact join_no (v :: r) (fun x hx => h x (.tail _ hx)) b hb
theorem join_ok : ∀ ws : List ByteArray, (∀ w ∈ ws, GW w) → okB (joinL ws) = true
  | [], _ => rfl
  | [w], h => (h w (.head _)).ok
  | w :: v :: r, h => by
    rw [joinL, okB_app _ _ _ (by decide), (h w (.head _)).ok, join_ok (v :: r) fun x hx => h x (.tail _ hx)]; rfl
def GL (ws : List ByteArray) : Prop := ∃ w r, ws = w :: r ∧ (∀ x ∈ ws, GW x) ∧ sb w 0 ≠ 35
theorem lines_text : ∀ W : List (List ByteArray), (∀ ws ∈ W, GL ws) → linesG [] (textL W) = W.map joinL ++ [[]]
  | [], _ => rfl
  | ws :: W, h => by
    obtain ⟨_, _, _, hg, _⟩ := h ws (.head _)
    have e : textL (ws :: W) = joinL ws ++ 10 :: textL W := by simp [textL]
    rw [e, linesG_cut _ _ _ (join_no ws hg), lines_text W fun x hx => h x (.tail _ hx)]
    rfl
theorem text_ok : ∀ W : List (List ByteArray), (∀ ws ∈ W, GL ws) → okB (textL W) = true
  | [], _ => rfl
  | ws :: W, h => by
    obtain ⟨_, _, _, hg, _⟩ := h ws (.head _)
    have e : textL (ws :: W) = joinL ws ++ 10 :: textL W := by simp [textL]
    rw [e, okB_app _ _ _ (by decide), join_ok ws hg, text_ok W fun x hx => h x (.tail _ hx)]; rfl
def readsF : List (List ByteArray) → Rdr → Option Rdr
  | [], r => some r
  | ws :: W, r => if (readR r ws).2 = 0 then readsF W (readR r ws).1 else none
theorem reads_app : ∀ (A B : List (List ByteArray)) (r r' : Rdr), readsF A r = some r' → readsF (A ++ B) r = readsF B r'
  | [], B, r, r', h => by cases h; rfl
  | ws :: A, B, r, r', h => by
    rw [readsF] at h
    rw [List.cons_append, readsF]
    split at h
    · rename_i e
      rw [if_pos e]; exact reads_app A B _ _ h
    · cases h
theorem lines_reads : ∀ (W : List (List ByteArray)) (ls : List ByteArray) (at_ : Int) (r r' : Rdr), (∀ ws ∈ W, GL ws) → ls.map tl = W.map joinL ++ [[]] → readsF W r = some r' → linesF ls at_ r = .inr r'
  | [], ls, at_, r, r', _, hl, h => by
    match ls, hl with
    | [], hl => simp at hl
    | _ :: _ :: _, hl => simp at hl
    | [l], hl =>
      cases h
      have e : tl l = [] := by simpa using hl
      have e2 : fieldsL l = [] := by
        refine map_tl_inj ?_
        rw [show (fieldsL l).map tl = wordsG [] (tl l) from fields_words l, e]; rfl
      rw [linesF, e2, if_neg (by decide), linesF]
  | ws :: W, ls, at_, r, r', hg, hl, h => by
    match ls, hl with
    | l :: ls, hl =>
      simp only [List.map_cons, List.cons_append, List.cons.injEq] at hl
      obtain ⟨w, rest, e, h1, h2⟩ := hg ws (.head _)
      have ef : fieldsL l = ws := by
        refine map_tl_inj ?_
        rw [show (fieldsL l).map tl = wordsG [] (tl l) from fields_words l, hl.1, words_join ws h1]
      rw [readsF] at h
      have hs : says ws = true := by
        unfold says
        rw [e, show w_ (w :: rest) 0 = w from rfl, decide_eq_false h2]; simp
      rw [linesF, ef, if_pos hs]
      split at h
      · rename_i e0
        rw [if_neg (by simpa using e0)]
        exact lines_reads W ls _ _ r' (fun x hx => hg x (.tail _ hx)) hl.2 h
      · cases h
theorem parse_of_reads {s : ByteArray} {W : List (List ByteArray)} {r : Rdr} (hs : tl s = textL W) (hz : s.size ≤ 65536) (hg : ∀ ws ∈ W, GL ws) (h : readsF W rdr0 = some r) : parseP s = endR s.size r := by
  have hl : (linesL s).map tl = W.map joinL ++ [[]] := by
    rw [show (linesL s).map tl = linesG [] (tl s) from lines_lines s, hs, lines_text W hg]
  have hb : ¬ 0 ≤ badV s s.size 0 := fun e => by
    have := (ok_bad s).1 e
    rw [show s.data.toList = textL W from hs, text_ok W hg] at this
    cases this
  rw [parseP, if_neg (by omega), if_neg hb, lines_reads W _ 0 rdr0 r hg hl h]

/-! ### where names stand -/
def idxK (K : List (List UInt8)) (k : List UInt8) : Int := idxF (fun i => decide (K.getD i [] = k)) K.length 0
theorem getK {α : Type} (f : α → List UInt8) (a0 : α) (l : List α) (h0 : f a0 = []) (i : Nat) : (l.map f).getD i [] = f (l.getD i a0) := by
  rw [List.getD_eq_getElem?_getD, List.getD_eq_getElem?_getD, List.getElem?_map]
  cases l[i]? with
  | none => exact h0.symm
  | some x => rfl
theorem idxS_K (l : List ByteArray) (s : ByteArray) : idxS l s = idxK (l.map tl) (tl s) := by
  unfold idxS idxK
  rw [List.length_map]
  congr 1
  funext i
  rw [getK tl .empty l rfl i]
theorem idxC_K (l : List Chan) (s : ByteArray) : idxC l s = idxK (l.map fun c => tl c.1) (tl s) := by
  unfold idxC idxK
  rw [List.length_map]
  congr 1
  funext i
  rw [getK (fun c : Chan => tl c.1) chan0 l rfl i]
theorem idxF_at {p : Nat → Bool} : ∀ {n i k : Nat}, idxF p n i = (k : Int) ↔ i ≤ k ∧ k < i + n ∧ p k = true ∧ ∀ j, i ≤ j → j < k → p j = false
  | 0, i, k => by
    rw [idxF]
    exact ⟨fun h => by omega, fun h => by omega⟩
  | n + 1, i, k => by
    rw [idxF]
    cases hp : p i with
    | true =>
      rw [if_pos rfl]
      constructor
      · intro h
        obtain rfl : i = k := by omega
        exact ⟨Nat.le_refl _, by omega, hp, fun j h1 h2 => by omega⟩
      · rintro ⟨h1, h2, h3, h4⟩
        by_cases e : i = k
        · rw [e]
        · have := h4 i (Nat.le_refl _) (by omega)
          rw [hp] at this; cases this
    | false =>
      rw [if_neg (by simp), idxF_at]
      constructor
      · rintro ⟨h1, h2, h3, h4⟩
        refine ⟨by omega, by omega, h3, fun j j1 j2 => ?_⟩
        by_cases e : j = i
        · rw [e]; exact hp
        · exact h4 j (by omega) j2
      · rintro ⟨h1, h2, h3, h4⟩
        have : i ≠ k := fun e => by rw [e] at hp; rw [hp] at h3; cases h3
        exact ⟨by omega, by omega, h3, fun j j1 j2 => h4 j (by omega) j2⟩
theorem K_get {K : List (List UInt8)} {i : Nat} (h : i < K.length) : K.getD i [] = K[i] := by
  rw [List.getD_eq_getElem?_getD, List.getElem?_eq_getElem h]; rfl
theorem idxK_lt {K : List (List UInt8)} {k : List UInt8} : idxK K k < 0 ↔ k ∉ K := by
  have : 0 ≤ idxK K k ↔ k ∈ K := by
    unfold idxK
    rw [idxF_iff]
    constructor
    · rintro ⟨j, _, h1, h2⟩
      have h1 : j < K.length := by omega
      rw [decide_eq_true_eq, K_get h1] at h2
      rw [← h2]; exact List.getElem_mem h1
    · intro h
      obtain ⟨j, hj, rfl⟩ := List.getElem_of_mem h
      exact ⟨j, Nat.zero_le _, by omega, decide_eq_true (K_get hj)⟩
  rw [← this]; omega
theorem idxK_at {K : List (List UInt8)} (hn : K.Nodup) {i : Nat} (h : i < K.length) : idxK K (K.getD i []) = i := by
  unfold idxK
  refine idxF_at.2 ⟨Nat.zero_le _, by omega, decide_eq_true rfl, fun j _ hj => decide_eq_false ?_⟩
  rw [K_get h, K_get (by omega)]
  intro e
  have := (List.getElem_inj hn).1 e
  omega
theorem nodup_of {K : List (List UInt8)} (h : ∀ i, i < K.length → idxK K (K.getD i []) = i) : K.Nodup := by
  rw [List.nodup_iff_pairwise_ne, List.pairwise_iff_getElem]
  intro i j hi hj hij e
  have := h j hj
  unfold idxK at this
  have := (idxF_at.1 this).2.2.2 i (Nat.zero_le _) hij
  rw [decide_eq_false_iff_not, K_get hi, K_get hj] at this
  exact this e

/-! ### reading what is written -/
def wB (l : List UInt8) : ByteArray := ⟨l.toArray⟩
def levW (l : List ByteArray) : List (List ByteArray) := l.map fun s => [wB wLevel, s]
def flowW (lev : List ByteArray) (ps : List (Nat × Nat)) : List (List ByteArray) := ps.map fun c => [wB wFlow, lev.getD c.1 .empty, lev.getD c.2 .empty]
def chanW (k : List UInt8) (lev : List ByteArray) (l : List Chan) : List (List ByteArray) := l.map fun c => [wB k, c.1, lev.getD c.2.toNat .empty]
def depW (d : Int) : List (List ByteArray) := [[wB wDepth, showV d]]
abbrev NL (l : List ByteArray) : Prop := (l.map tl).Nodup
abbrev NC (l : List Chan) : Prop := (l.map fun c => tl c.1).Nodup
theorem okW_name {k : List UInt8} {s : ByteArray} (hk : k ≠ wDepth) (h : nameB s = true) : okW (wB k) s = true := by
  unfold okW
  rw [show (wB k).data.toList = k by simp [wB], decide_eq_false hk, h]; simp
theorem lev_get {l : List ByteArray} (h : ∀ s ∈ l, nameB s = true) {i : Nat} (hi : i < l.length) : nameB (l.getD i .empty) = true := h _ (by rw [List.getD_eq_getElem?_getD, List.getElem?_eq_getElem hi]; exact List.getElem_mem hi)
theorem idxS_at {l : List ByteArray} (hn : NL l) {i : Nat} (hi : i < l.length) : idxS l (l.getD i .empty) = i := by
  rw [idxS_K, ← getK tl .empty l rfl i]
  exact idxK_at hn (by rw [List.length_map]; exact hi)
theorem reads_lev : ∀ (l acc : List ByteArray) (r : Rdr), r.lev = acc → NL (acc ++ l) → (acc ++ l).length ≤ 64 → (∀ s ∈ l, nameB s = true) → readsF (levW l) r = some { r with lev := acc ++ l }
  | [], acc, r, h, _, _, _ => by subst h; simp [levW, readsF]
  | s :: l, acc, r, h, hn, hl, hN => by
    have e1 : readR r [wB wLevel, s] = ({ r with lev := acc ++ [s] }, 0) := by
      have hx : idxS acc s < 0 := by
        rw [idxS_K, idxK_lt]
        intro hm
        rw [NL, List.map_append, List.nodup_append] at hn
        exact hn.2.2 _ hm _ (List.mem_map_of_mem (.head _)) rfl
      unfold readR
      rw [if_pos (show (w_ [wB wLevel, s] 0).data.toList = wLevel from rfl)]
      unfold pickR
      rw [if_pos ⟨rfl, by show (okW (wB wLevel) s && true) = true; rw [okW_name (by decide) (hN s (.head _))]; rfl⟩]
      unfold levelR
      subst h
      rw [show w_ [wB wLevel, s].tail 0 = s from rfl, if_neg (by omega), if_neg (by simp at hl; omega)]
    rw [show levW (s :: l) = [wB wLevel, s] :: levW l from rfl, readsF, e1, if_pos rfl]
    have := reads_lev l (acc ++ [s]) { r with lev := acc ++ [s] } rfl (by simpa using hn) (by simpa using hl) fun x hx => hN x (.tail _ hx)
    rw [this]; simp
theorem reads_flow (lev : List ByteArray) (hn : NL lev) (hN : ∀ s ∈ lev, nameB s = true) : ∀ (ps : List (Nat × Nat)) (r : Rdr), r.lev = lev → (∀ p ∈ ps, p.1 < lev.length ∧ p.2 < lev.length) → readsF (flowW lev ps) r = some { r with flows := r.flows ++ ps }
  | [], r, _, _ => by simp [flowW, readsF]
  | (a, b) :: ps, r, h, hp => by
    obtain ⟨ha, hb⟩ := hp (a, b) (.head _)
    have e1 : readR r [wB wFlow, lev.getD a .empty, lev.getD b .empty] = ({ r with flows := r.flows ++ [(a, b)] }, 0) := by
      unfold readR
      rw [if_neg (show ¬ (w_ [wB wFlow, lev.getD a .empty, lev.getD b .empty] 0).data.toList = wLevel from (by decide : ¬ wFlow = wLevel)), if_pos (show (w_ [wB wFlow, lev.getD a .empty, lev.getD b .empty] 0).data.toList = wFlow from rfl)]
      unfold pickR
      rw [if_pos ⟨rfl, by show (okW (wB wFlow) (lev.getD a .empty) && (okW (wB wFlow) (lev.getD b .empty) && true)) = true; rw [okW_name (by decide) (lev_get hN ha), okW_name (by decide) (lev_get hN hb)]; rfl⟩]
      unfold flowR
      subst h
      rw [show w_ [wB wFlow, r.lev.getD a .empty, r.lev.getD b .empty].tail 0 = r.lev.getD a .empty from rfl, show w_ [wB wFlow, r.lev.getD a .empty, r.lev.getD b .empty].tail 1 = r.lev.getD b .empty from rfl, idxS_at hn ha, idxS_at hn hb, if_pos ⟨by omega, by omega⟩]
      rfl
    rw [show flowW lev ((a, b) :: ps) = [wB wFlow, lev.getD a .empty, lev.getD b .empty] :: flowW lev ps from rfl, readsF, e1, if_pos rfl]
    have := reads_flow lev hn hN ps { r with flows := r.flows ++ [(a, b)] } h fun p hq => hp p (.tail _ hq)
    refine Eq.trans this ?_
    simp
def OKC (lev : List ByteArray) (c : Chan) : Prop := nameB c.1 = true ∧ 0 ≤ c.2 ∧ c.2 < lev.length
theorem chan_read {lev : List ByteArray} (hn : NL lev) {acc : List Chan} {c : Chan} {l : List Chan} (hc : OKC lev c) (hN : NC (acc ++ c :: l)) (hl : (acc ++ c :: l).length ≤ 32) : chanE lev acc [c.1, lev.getD c.2.toNat .empty] = 0 ∧ chanL lev acc [c.1, lev.getD c.2.toNat .empty] = acc ++ [c] := by
  obtain ⟨h1, h2, h3⟩ := hc
  have hx : idxC acc c.1 < 0 := by
    rw [idxC_K, idxK_lt]
    intro hm
    rw [NC, List.map_append, List.nodup_append] at hN
    exact hN.2.2 _ hm _ (List.mem_map_of_mem (f := fun c : Chan => tl c.1) (.head _)) rfl
  have hi : idxS lev (lev.getD c.2.toNat .empty) = c.2 := by
    rw [idxS_at hn (by omega)]; omega
  have e : chanE lev acc [c.1, lev.getD c.2.toNat .empty] = 0 := by
    unfold chanE
    rw [show w_ [c.1, lev.getD c.2.toNat .empty] 0 = c.1 from rfl, show w_ [c.1, lev.getD c.2.toNat .empty] 1 = lev.getD c.2.toNat .empty from rfl, if_neg (by omega), hi, if_neg (by omega), if_neg (by simp at hl; omega)]
  refine ⟨e, ?_⟩
  unfold chanL
  rw [e, if_pos rfl, show w_ [c.1, lev.getD c.2.toNat .empty] 1 = lev.getD c.2.toNat .empty from rfl, hi]; rfl
theorem reads_in (lev : List ByteArray) (hn : NL lev) (hN : ∀ s ∈ lev, nameB s = true) : ∀ (l acc : List Chan) (r : Rdr), r.lev = lev → r.ins = acc → NC (acc ++ l) → (acc ++ l).length ≤ 32 → (∀ c ∈ l, OKC lev c) → readsF (chanW wInput lev l) r = some { r with ins := acc ++ l }
  | [], acc, r, _, h, _, _, _ => by subst h; simp [chanW, readsF]
  | c :: l, acc, r, h, h', hC, hl, hO => by
    obtain ⟨q1, q2⟩ := chan_read hn (hO c (.head _)) hC hl
    obtain ⟨o1, o2, o3⟩ := hO c (.head _)
    have e1 : readR r [wB wInput, c.1, lev.getD c.2.toNat .empty] = ({ r with ins := acc ++ [c] }, 0) := by
      unfold readR
      rw [if_neg (show ¬ (w_ [wB wInput, c.1, lev.getD c.2.toNat .empty] 0).data.toList = wLevel from (by decide : ¬ wInput = wLevel)), if_neg (show ¬ (w_ [wB wInput, c.1, lev.getD c.2.toNat .empty] 0).data.toList = wFlow from (by decide : ¬ wInput = wFlow)), if_pos (show (w_ [wB wInput, c.1, lev.getD c.2.toNat .empty] 0).data.toList = wInput from rfl)]
      unfold pickR
      rw [if_pos ⟨rfl, by show (okW (wB wInput) c.1 && (okW (wB wInput) (lev.getD c.2.toNat .empty) && true)) = true; rw [okW_name (by decide) o1, okW_name (by decide) (lev_get hN (by omega))]; rfl⟩]
      subst h'
      rw [h, show [wB wInput, c.1, lev.getD c.2.toNat .empty].tail = [c.1, lev.getD c.2.toNat .empty] from rfl, q1, q2]
    rw [show chanW wInput lev (c :: l) = [wB wInput, c.1, lev.getD c.2.toNat .empty] :: chanW wInput lev l from rfl, readsF, e1, if_pos rfl]
    have := reads_in lev hn hN l (acc ++ [c]) { r with ins := acc ++ [c] } h rfl (by simpa using hC) (by simpa using hl) fun x hx => hO x (.tail _ hx)
    refine Eq.trans this ?_
    simp
theorem reads_out (lev : List ByteArray) (hn : NL lev) (hN : ∀ s ∈ lev, nameB s = true) : ∀ (l acc : List Chan) (r : Rdr), r.lev = lev → r.outs = acc → NC (acc ++ l) → (acc ++ l).length ≤ 32 → (∀ c ∈ l, OKC lev c) → readsF (chanW wOutput lev l) r = some { r with outs := acc ++ l }
  | [], acc, r, _, h, _, _, _ => by subst h; simp [chanW, readsF]
  | c :: l, acc, r, h, h', hC, hl, hO => by
    obtain ⟨q1, q2⟩ := chan_read hn (hO c (.head _)) hC hl
    obtain ⟨o1, o2, o3⟩ := hO c (.head _)
    have e1 : readR r [wB wOutput, c.1, lev.getD c.2.toNat .empty] = ({ r with outs := acc ++ [c] }, 0) := by
      unfold readR
      rw [if_neg (show ¬ (w_ [wB wOutput, c.1, lev.getD c.2.toNat .empty] 0).data.toList = wLevel from (by decide : ¬ wOutput = wLevel)), if_neg (show ¬ (w_ [wB wOutput, c.1, lev.getD c.2.toNat .empty] 0).data.toList = wFlow from (by decide : ¬ wOutput = wFlow)), if_neg (show ¬ (w_ [wB wOutput, c.1, lev.getD c.2.toNat .empty] 0).data.toList = wInput from (by decide : ¬ wOutput = wInput)), if_pos (show (w_ [wB wOutput, c.1, lev.getD c.2.toNat .empty] 0).data.toList = wOutput from rfl)]
      unfold pickR
      rw [if_pos ⟨rfl, by show (okW (wB wOutput) c.1 && (okW (wB wOutput) (lev.getD c.2.toNat .empty) && true)) = true; rw [okW_name (by decide) o1, okW_name (by decide) (lev_get hN (by omega))]; rfl⟩]
      subst h'
      rw [h, show [wB wOutput, c.1, lev.getD c.2.toNat .empty].tail = [c.1, lev.getD c.2.toNat .empty] from rfl, q1, q2]
    rw [show chanW wOutput lev (c :: l) = [wB wOutput, c.1, lev.getD c.2.toNat .empty] :: chanW wOutput lev l from rfl, readsF, e1, if_pos rfl]
    have := reads_out lev hn hN l (acc ++ [c]) { r with outs := acc ++ [c] } h rfl (by simpa using hC) (by simpa using hl) fun x hx => hO x (.tail _ hx)
    refine Eq.trans this ?_
    simp
theorem show_ok : ∀ k : Fin 65, 1 ≤ k.1 → numV (showV (k.1 : Int)) = ((k.1 : Int), true) ∧ tl (showV (k.1 : Int)) ≠ [] ∧ (∀ b ∈ tl (showV (k.1 : Int)), b ≠ 10 ∧ blkB b = false) ∧ okB (tl (showV (k.1 : Int))) = true ∧ (showV (k.1 : Int)).size ≤ 2 := by decide +kernel
theorem depth_ok {d : Int} (h1 : 1 ≤ d) (h2 : d ≤ 64) : numV (showV d) = (d, true) ∧ GW (showV d) ∧ (showV d).size ≤ 2 := by
  obtain ⟨k, rfl⟩ : ∃ k : Nat, d = k := ⟨d.toNat, by omega⟩
  obtain ⟨a, b, c, e, f⟩ := show_ok ⟨k, by omega⟩ (by show 1 ≤ k; omega)
  exact ⟨a, ⟨b, c, e⟩, f⟩
theorem reads_dep {d : Int} (h1 : 1 ≤ d) (h2 : d ≤ 64) (r : Rdr) (h0 : r.depth = 0) : readsF (depW d) r = some { r with depth := d } := by
  have hn := (depth_ok h1 h2).1
  have e1 : readR r [wB wDepth, showV d] = ({ r with depth := d }, 0) := by
    unfold readR
    rw [if_neg (show ¬ (w_ [wB wDepth, showV d] 0).data.toList = wLevel from (by decide : ¬ wDepth = wLevel)), if_neg (show ¬ (w_ [wB wDepth, showV d] 0).data.toList = wFlow from (by decide : ¬ wDepth = wFlow)), if_neg (show ¬ (w_ [wB wDepth, showV d] 0).data.toList = wInput from (by decide : ¬ wDepth = wInput)), if_neg (show ¬ (w_ [wB wDepth, showV d] 0).data.toList = wOutput from (by decide : ¬ wDepth = wOutput)), if_pos (show (w_ [wB wDepth, showV d] 0).data.toList = wDepth from rfl)]
    unfold pickR
    rw [if_pos ⟨rfl, by
      show (okW (wB wDepth) (showV d) && true) = true
      unfold okW
      rw [show (wB wDepth).data.toList = wDepth from rfl, hn]; simp⟩]
    unfold depthR
    rw [show w_ [wB wDepth, showV d].tail 0 = showV d from rfl, hn, h0, if_neg (by omega), if_neg (by show ¬ (d < 1 ∨ 64 < d); omega)]
  rw [depW, readsF, e1, if_pos rfl, readsF]

/-! ### policies that may be -/
structure PolR (p : Pol) : Prop where
  up : rightM p.up = true
  len : p.up.length = p.lev.length
  nl : NL p.lev
  names : ∀ s ∈ p.lev, nameB s = true
  ni : NC p.ins
  no : NC p.outs
  il : p.ins.length ≤ 32
  ol : p.outs.length ≤ 32
  iok : ∀ c ∈ p.ins, OKC p.lev c
  ook : ∀ c ∈ p.outs, OKC p.lev c
  depth : 1 ≤ p.depth ∧ p.depth ≤ 64
theorem chans_iff (lev : List ByteArray) (l : List Chan) : chansB lev.length l = true ↔ l.length ≤ 32 ∧ NC l ∧ ∀ c ∈ l, OKC lev c := by
  unfold chansB
  rw [Bool.and_eq_true, decide_eq_true_eq, allF_iff]
  have hm : ∀ {i}, i < l.length → l.getD i chan0 ∈ l := fun {i} hi => by rw [List.getD_eq_getElem?_getD, List.getElem?_eq_getElem hi]; exact List.getElem_mem hi
  have hk : ∀ i, (l.map fun c => tl c.1).getD i [] = tl (l.getD i chan0).1 := getK (fun c : Chan => tl c.1) chan0 l rfl
  refine and_congr Iff.rfl ⟨fun h => ?_, fun ⟨h1, h2⟩ i _ hi => ?_⟩
  · have each : ∀ i, i < l.length → nameB (l.getD i chan0).1 = true ∧ idxC l (l.getD i chan0).1 = (i : Int) ∧ 0 ≤ (l.getD i chan0).2 ∧ (l.getD i chan0).2 < (lev.length : Int) := fun i hi => by
      have := h i (Nat.zero_le _) (by omega)
      unfold chnB at this
      simp only [Bool.and_eq_true, decide_eq_true_eq] at this
      exact ⟨this.1.1.1, this.1.1.2, this.1.2, this.2⟩
    refine ⟨nodup_of fun i hi => ?_, fun c hc => ?_⟩
    · rw [List.length_map] at hi
      rw [hk, ← idxC_K]; exact (each i hi).2.1
    · obtain ⟨i, hi, rfl⟩ := List.getElem_of_mem hc
      have := each i hi
      rw [List.getD_eq_getElem?_getD, List.getElem?_eq_getElem hi] at this
      exact ⟨this.1, this.2.2.1, this.2.2.2⟩
  · have hi : i < l.length := by omega
    obtain ⟨o1, o2, o3⟩ := h2 _ (hm hi)
    unfold chnB
    have : idxC l (l.getD i chan0).1 = i := by
      rw [idxC_K, ← hk]; exact idxK_at h1 (by rw [List.length_map]; exact hi)
    rw [o1, decide_eq_true this, decide_eq_true o2, decide_eq_true o3]; rfl
theorem right_iff (p : Pol) : rightP p = true ↔ PolR p := by
  unfold rightP headB
  have hk : ∀ i, (p.lev.map tl).getD i [] = tl (p.lev.getD i .empty) := getK tl .empty p.lev rfl
  simp only [Bool.and_eq_true, decide_eq_true_eq, chans_iff, allF_iff]
  constructor
  · rintro ⟨⟨⟨⟨⟨h1, h2⟩, h3⟩, h4⟩, h5⟩, h6, h7⟩
    have each : ∀ i, i < p.lev.length → nameB (p.lev.getD i .empty) = true ∧ idxS p.lev (p.lev.getD i .empty) = (i : Int) := fun i hi => by
      have := h5 i (Nat.zero_le _) (by omega)
      unfold levB at this
      simp only [Bool.and_eq_true, decide_eq_true_eq] at this
      exact this
    refine ⟨h2, h1.symm, nodup_of fun i hi => ?_, fun s hs => ?_, h6.2.1, h7.2.1, h6.1, h7.1, h6.2.2, h7.2.2, h3, h4⟩
    · rw [List.length_map] at hi
      rw [hk, ← idxS_K]; exact (each i hi).2
    · obtain ⟨i, hi, rfl⟩ := List.getElem_of_mem hs
      have := (each i hi).1
      rwa [List.getD_eq_getElem?_getD, List.getElem?_eq_getElem hi] at this
  · intro h
    refine ⟨⟨⟨⟨⟨h.len.symm, h.up⟩, h.depth.1⟩, h.depth.2⟩, fun i _ hi => ?_⟩, ⟨h.il, h.ni, h.iok⟩, h.ol, h.no, h.ook⟩
    have hi : i < p.lev.length := by omega
    unfold levB
    rw [lev_get h.names hi, decide_eq_true (idxS_at h.nl hi)]; rfl

/-- A policy's lines. -/
def printW (p : Pol) : List (List ByteArray) := levW p.lev ++ (flowW p.lev (coversM p.up) ++ (chanW wInput p.lev p.ins ++ (chanW wOutput p.lev p.outs ++ depW p.depth)))
/-- The same, but for levels the other way round. -/
def turnW (p : Pol) : List (List ByteArray) := levW p.lev ++ (depW p.depth ++ (chanW wOutput p.lev p.outs.reverse ++ (chanW wInput p.lev p.ins.reverse ++ flowW p.lev (coversM p.up).reverse)))

theorem textL_app (A B : List (List ByteArray)) : textL (A ++ B) = textL A ++ textL B := by simp [textL]
theorem textL_len {k : Nat} : ∀ {W : List (List ByteArray)}, (∀ ws ∈ W, (joinL ws).length + 1 ≤ k) → (textL W).length ≤ k * W.length
  | [], _ => by simp [textL]
  | ws :: W, h => by
    have e : textL (ws :: W) = joinL ws ++ 10 :: textL W := by simp [textL]
    have := textL_len fun x hx => h x (.tail _ hx)
    have := h ws (.head _)
    rw [e, List.length_append, List.length_cons, List.length_cons, Nat.mul_add]
    omega
theorem gw_key : (∀ k ∈ [wLevel, wFlow, wInput, wOutput, wDepth], (tl (wB k) ≠ [] ∧ (∀ b ∈ tl (wB k), b ≠ 10 ∧ blkB b = false) ∧ okB (tl (wB k)) = true) ∧ sb (wB k) 0 ≠ 35) := by decide +kernel
theorem gl_of {k : List UInt8} (hk : k ∈ [wLevel, wFlow, wInput, wOutput, wDepth]) {ws : List ByteArray} (h : ∀ w ∈ ws, GW w) : GL (wB k :: ws) := by
  obtain ⟨⟨a, b, c⟩, d⟩ := gw_key k hk
  refine ⟨_, _, rfl, fun x hx => ?_, d⟩
  rcases List.mem_cons.1 hx with rfl | hx
  · exact ⟨a, b, c⟩
  · exact h x hx
theorem parts {p : Pol} (h : PolR p) : (∀ ws ∈ levW p.lev, GL ws ∧ (joinL ws).length + 1 ≤ 55) ∧ (∀ ws ∈ flowW p.lev (coversM p.up), GL ws ∧ (joinL ws).length + 1 ≤ 103) ∧ (∀ ws ∈ chanW wInput p.lev p.ins, GL ws ∧ (joinL ws).length + 1 ≤ 104) ∧ (∀ ws ∈ chanW wOutput p.lev p.outs, GL ws ∧ (joinL ws).length + 1 ≤ 105) ∧ (∀ ws ∈ depW p.depth, GL ws ∧ (joinL ws).length + 1 ≤ 9) := by
  have ho : orderM p.up = true := by have := h.up; unfold rightM at this; rw [Bool.and_eq_true] at this; exact this.1
  have two : ∀ (k : List UInt8) (n : Nat), k ∈ [wLevel, wFlow, wInput, wOutput, wDepth] → (wB k).size = n → ∀ a b : ByteArray, nameB a = true → nameB b = true → GL [wB k, a, b] ∧ (joinL [wB k, a, b]).length + 1 ≤ n + 99 := fun k n hk hn a b ha hb => by
    have qa := gw_name ha
    have qb := gw_name hb
    refine ⟨gl_of hk fun w hw => ?_, ?_⟩
    · simp at hw
      rcases hw with rfl | rfl
      · exact qa.1
      · exact qb.1
    · simp only [joinL, List.length_append, List.length_cons, size_l]; omega
  refine ⟨fun ws hws => ?_, fun ws hws => ?_, fun ws hws => ?_, fun ws hws => ?_, fun ws hws => ?_⟩
  · obtain ⟨s, hs, rfl⟩ := List.mem_map.1 hws
    have q := gw_name (h.names s hs)
    refine ⟨gl_of (by decide) fun w hw => by simp at hw; subst hw; exact q.1, ?_⟩
    simp only [joinL, List.length_append, List.length_cons, size_l]
    have : (wB wLevel).size = 5 := by decide
    omega
  · obtain ⟨c, hc, rfl⟩ := List.mem_map.1 hws
    obtain ⟨c1, c2⟩ := covers_lt (ord_of ho) c hc
    rw [h.len] at c1 c2
    exact two wFlow 4 (by decide) (by decide) _ _ (lev_get h.names c1) (lev_get h.names c2)
  · obtain ⟨c, hc, rfl⟩ := List.mem_map.1 hws
    obtain ⟨c1, c2, c3⟩ := h.iok c hc
    exact two wInput 5 (by decide) (by decide) _ _ c1 (lev_get h.names (by omega))
  · obtain ⟨c, hc, rfl⟩ := List.mem_map.1 hws
    obtain ⟨c1, c2, c3⟩ := h.ook c hc
    exact two wOutput 6 (by decide) (by decide) _ _ c1 (lev_get h.names (by omega))
  · obtain rfl := List.mem_singleton.1 hws
    obtain ⟨_, q1, q2⟩ := depth_ok h.depth.1 h.depth.2
    refine ⟨gl_of (by decide) fun w hw => by simp at hw; subst hw; exact q1, ?_⟩
    simp only [joinL, List.length_append, List.length_cons, size_l]
    have : (wB wDepth).size = 5 := by decide
    omega
theorem flowW_rev (lev : List ByteArray) (ps : List (Nat × Nat)) : flowW lev ps.reverse = (flowW lev ps).reverse := by simp [flowW]
theorem chanW_rev (k : List UInt8) (lev : List ByteArray) (l : List Chan) : chanW k lev l.reverse = (chanW k lev l).reverse := by simp [chanW]
theorem print_ok {p : Pol} (h : PolR p) : (∀ ws ∈ printW p, GL ws) ∧ (textL (printW p)).length ≤ 65536 ∧ (∀ ws ∈ turnW p, GL ws) ∧ (textL (turnW p)).length ≤ 65536 := by
  obtain ⟨a, b, c, d, e⟩ := parts h
  have ho : orderM p.up = true := by have := h.up; unfold rightM at this; rw [Bool.and_eq_true] at this; exact this.1
  have hl := (order_len ho).2
  have hf := covers_few h.up
  have := h.len
  have := h.il
  have := h.ol
  have a2 := textL_len fun ws hws => (a ws hws).2
  have b2 := textL_len fun ws hws => (b ws hws).2
  have c2 := textL_len fun ws hws => (c ws hws).2
  have d2 := textL_len fun ws hws => (d ws hws).2
  have e2 := textL_len fun ws hws => (e ws hws).2
  have b3 := textL_len (W := (flowW p.lev (coversM p.up)).reverse) fun ws hws => (b ws (List.mem_reverse.1 hws)).2
  have c3 := textL_len (W := (chanW wInput p.lev p.ins).reverse) fun ws hws => (c ws (List.mem_reverse.1 hws)).2
  have d3 := textL_len (W := (chanW wOutput p.lev p.outs).reverse) fun ws hws => (d ws (List.mem_reverse.1 hws)).2
  rw [List.length_reverse] at b3 c3 d3
  rw [show (levW p.lev).length = p.lev.length by simp [levW]] at a2
  rw [show (flowW p.lev (coversM p.up)).length = (coversM p.up).length by simp [flowW]] at b2 b3
  rw [show (chanW wInput p.lev p.ins).length = p.ins.length by simp [chanW]] at c2 c3
  rw [show (chanW wOutput p.lev p.outs).length = p.outs.length by simp [chanW]] at d2 d3
  rw [show (depW p.depth).length = 1 from rfl] at e2
  refine ⟨fun ws hws => ?_, ?_, fun ws hws => ?_, ?_⟩
  · unfold printW at hws
    simp only [List.mem_append] at hws
    rcases hws with q | q | q | q | q
    · exact (a ws q).1
    · exact (b ws q).1
    · exact (c ws q).1
    · exact (d ws q).1
    · exact (e ws q).1
  · unfold printW
    simp only [textL_app, List.length_append]
    omega
  · unfold turnW at hws
    simp only [List.mem_append, flowW_rev, chanW_rev, List.mem_reverse] at hws
    rcases hws with q | q | q | q | q
    · exact (a ws q).1
    · exact (e ws q).1
    · exact (d ws q).1
    · exact (c ws q).1
    · exact (b ws q).1
  · unfold turnW
    simp only [textL_app, List.length_append, flowW_rev, chanW_rev]
    omega
theorem closes {p : Pol} (h : PolR p) {ps : List (Nat × Nat)} (hps : ∀ q, q ∈ ps ↔ q ∈ coversM p.up) (n : Int) (r : Rdr) (h1 : r.lev = p.lev) (h2 : r.flows = ps) (h3 : r.depth = p.depth) : endR n r = (⟨p.lev, p.up, r.ins, r.outs, p.depth⟩, 0, 0) := by
  have ho : orderM p.up = true := by have := h.up; unfold rightM at this; rw [Bool.and_eq_true] at this; exact this.1
  have hl := (order_len ho).1
  have hd := h.depth
  have hlen := h.len
  unfold endR
  rw [h1, h2, h3, ← hlen, close_covers (ord_of ho) hps, if_neg (by omega), if_pos h.up]
theorem parse_print {p : Pol} (h : PolR p) {s : ByteArray} (hs : tl s = textL (printW p)) : parseP s = (p, 0, 0) := by
  obtain ⟨g1, g2, _, _⟩ := print_ok h
  have ho : orderM p.up = true := by have := h.up; unfold rightM at this; rw [Bool.and_eq_true] at this; exact this.1
  have hl := (order_len ho).2
  have hlen := h.len
  have hcl : ∀ q ∈ coversM p.up, q.1 < p.lev.length ∧ q.2 < p.lev.length := fun q hq => by rw [← hlen]; exact covers_lt (ord_of ho) q hq
  have hr : readsF (printW p) rdr0 = some ⟨p.lev, p.ins, p.outs, p.depth, coversM p.up⟩ := by
    unfold printW
    rw [reads_app _ _ _ _ (reads_lev p.lev [] rdr0 rfl h.nl (by simp; omega) h.names), reads_app _ _ _ _ (reads_flow p.lev h.nl h.names (coversM p.up) _ rfl hcl), reads_app _ _ _ _ (reads_in p.lev h.nl h.names p.ins [] _ rfl rfl h.ni h.il h.iok), reads_app _ _ _ _ (reads_out p.lev h.nl h.names p.outs [] _ rfl rfl h.no h.ol h.ook), reads_dep h.depth.1 h.depth.2 _ rfl]
    rfl
  have hz : s.size ≤ 65536 := by rw [← size_l, show s.data.toList = _ from hs]; exact g2
  rw [parse_of_reads hs hz g1 hr, closes h (fun q => Iff.rfl) _ _ rfl rfl rfl]
theorem nd_rev {α : Type} {l : List α} (h : l.Nodup) : l.reverse.Nodup := List.pairwise_reverse.2 (List.Pairwise.imp (fun h => Ne.symm h) h)
theorem parse_turn {p : Pol} (h : PolR p) {s : ByteArray} (hs : tl s = textL (turnW p)) : parseP s = (⟨p.lev, p.up, p.ins.reverse, p.outs.reverse, p.depth⟩, 0, 0) := by
  obtain ⟨_, _, g1, g2⟩ := print_ok h
  have ho : orderM p.up = true := by have := h.up; unfold rightM at this; rw [Bool.and_eq_true] at this; exact this.1
  have hl := (order_len ho).2
  have hlen := h.len
  have hcl : ∀ q ∈ (coversM p.up).reverse, q.1 < p.lev.length ∧ q.2 < p.lev.length := fun q hq => by rw [← hlen]; exact covers_lt (ord_of ho) q (List.mem_reverse.1 hq)
  have ni : NC p.ins.reverse := by rw [NC, List.map_reverse]; exact nd_rev h.ni
  have no : NC p.outs.reverse := by rw [NC, List.map_reverse]; exact nd_rev h.no
  have hr : readsF (turnW p) rdr0 = some ⟨p.lev, p.ins.reverse, p.outs.reverse, p.depth, (coversM p.up).reverse⟩ := by
    unfold turnW
    rw [reads_app _ _ _ _ (reads_lev p.lev [] rdr0 rfl h.nl (by simp; omega) h.names), reads_app _ _ _ _ (reads_dep h.depth.1 h.depth.2 _ rfl),
      reads_app _ _ _ _ (reads_out p.lev h.nl h.names p.outs.reverse [] _ rfl rfl no (by simpa using h.ol) fun c hc => h.ook c (List.mem_reverse.1 hc)), reads_app _ _ _ _ (reads_in p.lev h.nl h.names p.ins.reverse [] _ rfl rfl ni (by simpa using h.il) fun c hc => h.iok c (List.mem_reverse.1 hc)), reads_flow p.lev h.nl h.names _ _ rfl hcl]
    rfl
  have hz : s.size ≤ 65536 := by rw [← size_l, show s.data.toList = _ from hs]; exact g2
  rw [parse_of_reads hs hz g1 hr, closes h (fun q => List.mem_reverse) _ _ rfl rfl rfl]

/-! ### what is read may be -/
structure RInv (r : Rdr) : Prop where
  nl : NL r.lev
  names : ∀ s ∈ r.lev, nameB s = true
  ni : NC r.ins
  no : NC r.outs
  iok : ∀ c ∈ r.ins, OKC r.lev c
  ook : ∀ c ∈ r.outs, OKC r.lev c
  depth : r.depth = 0 ∨ (1 ≤ r.depth ∧ r.depth ≤ 64)
theorem allW_name {w : List ByteArray} (h : allW w = true) (hk : (w_ w 0).data.toList ≠ wDepth) {j : Nat} (hj : j < w.tail.length) : nameB (w_ w.tail j) = true := by
  unfold allW at h
  rw [List.all_eq_true] at h
  have := h (w_ w.tail j) (by unfold w_; rw [List.getD_eq_getElem?_getD, List.getElem?_eq_getElem hj]; exact List.getElem_mem hj)
  unfold okW at this
  rw [decide_eq_false hk] at this
  simpa using this
theorem nd_snoc {α : Type} {K : List α} {k : α} (h : K.Nodup) (hk : k ∉ K) : (K ++ [k]).Nodup := by
  rw [List.nodup_append]
  exact ⟨h, by simp, fun a ha b hb => by rw [List.mem_singleton.1 hb]; exact fun e => hk (e ▸ ha)⟩
theorem rinv_chan {lev : List ByteArray} {l : List Chan} {w : List ByteArray} (hN : nameB (w_ w 0) = true) (hn : NC l) (hO : ∀ c ∈ l, OKC lev c) : NC (chanL lev l w) ∧ ∀ c ∈ chanL lev l w, OKC lev c := by
  unfold chanL
  split
  · rename_i h0
    unfold chanE at h0
    split at h0
    · omega
    · rename_i h1
      split at h0
      · omega
      · rename_i h2
        refine ⟨?_, fun c hc => ?_⟩
        · rw [NC, List.map_append]
          refine nd_snoc hn ?_
          have : idxC l (w_ w 0) < 0 := by omega
          rwa [idxC_K, idxK_lt] at this
        · rcases List.mem_append.1 hc with hc | hc
          · exact hO c hc
          · rw [List.mem_singleton.1 hc]
            have := idxS_lt (l := lev) (s := w_ w 1) (by omega)
            exact ⟨hN, by show 0 ≤ idxS _ _; omega, by show idxS _ _ < _; omega⟩
  · exact ⟨hn, hO⟩
theorem rinv_read {r : Rdr} (h : RInv r) (w : List ByteArray) : RInv (readR r w).1 := by
  have pick : ∀ {k d}, (w.length = k + 1 → allW w = true → RInv d.1) → RInv (pickR r w k d).1 := fun {k d} hd => by
    unfold pickR; split
    · rename_i hc; exact hd hc.1 hc.2
    · exact h
  have tl_len : ∀ {k}, w.length = k + 1 → w.tail.length = k := fun {k} e => by rw [List.length_tail]; omega
  unfold readR
  split
  · rename_i e
    refine pick fun hl hw => ?_
    unfold levelR
    split
    · exact h
    · rename_i h1
      split
      · exact h
      · refine ⟨?_, fun s hs => ?_, h.ni, h.no, fun c hc => ?_, fun c hc => ?_, h.depth⟩
        · show NL (r.lev ++ [_])
          rw [NL, List.map_append]
          refine nd_snoc h.nl ?_
          have : idxS r.lev (w_ w.tail 0) < 0 := by omega
          rwa [idxS_K, idxK_lt] at this
        · rcases List.mem_append.1 hs with hs | hs
          · exact h.names s hs
          · rw [List.mem_singleton.1 hs]
            exact allW_name hw (by rw [e]; decide) (by rw [tl_len hl]; omega)
        · have := h.iok c hc
          exact ⟨this.1, this.2.1, by have := this.2.2; show c.2 < ((r.lev ++ [_]).length : Int); simp; omega⟩
        · have := h.ook c hc
          exact ⟨this.1, this.2.1, by have := this.2.2; show c.2 < ((r.lev ++ [_]).length : Int); simp; omega⟩
  split
  · refine pick fun _ _ => ?_
    unfold flowR
    split
    · exact ⟨h.nl, h.names, h.ni, h.no, h.iok, h.ook, h.depth⟩
    · exact h
  split
  · rename_i e
    refine pick fun hl hw => ?_
    have := rinv_chan (lev := r.lev) (allW_name hw (by rw [e]; decide) (by rw [tl_len hl]; omega)) h.ni h.iok
    exact ⟨h.nl, h.names, this.1, h.no, this.2, h.ook, h.depth⟩
  split
  · rename_i e
    refine pick fun hl hw => ?_
    have := rinv_chan (lev := r.lev) (allW_name hw (by rw [e]; decide) (by rw [tl_len hl]; omega)) h.no h.ook
    exact ⟨h.nl, h.names, h.ni, this.1, h.iok, this.2, h.depth⟩
  split
  · refine pick fun _ _ => ?_
    unfold depthR
    split
    · exact h
    · split
      · exact h
      · exact ⟨h.nl, h.names, h.ni, h.no, h.iok, h.ook, .inr (by show 1 ≤ (numV _).1 ∧ (numV _).1 ≤ 64; omega)⟩
  · exact h
theorem lines_keep : ∀ (ls : List ByteArray) (at_ : Int) (r r' : Rdr) (n : Nat), RInv r → Kept r n → n + ls.length ≤ 100000 → linesF ls at_ r = .inr r' → RInv r' ∧ ∃ k, Kept r' k
  | [], at_, r, r', n, h, hk, _, e => by cases e; exact ⟨h, n, hk⟩
  | l :: ls, at_, r, r', n, h, hk, hn, e => by
    rw [List.length_cons] at hn
    rw [linesF] at e
    split at e
    · split at e
      · cases e
      · exact lines_keep ls _ _ r' (n + 1) (rinv_read h _) (kept_read hk (by omega) _) (by omega) e
    · exact lines_keep ls _ _ r' n h hk (by omega) e
theorem parse_right {s : ByteArray} (h : (parseP s).2.2 = 0) : PolR (parseP s).1 := by
  revert h
  unfold parseP
  split
  · intro h; cases h
  · rename_i hz
    split
    · intro h; cases h
    · split
      · rename_i at_ e he
        intro h
        exfalso
        have : ∀ (ls : List ByteArray) (a : Int) (r : Rdr) (q : Int × Int), linesF ls a r = .inl q → q.2 ≠ 0 := fun ls => by
          induction ls with
          | nil => intro a r q hq; cases hq
          | cons l ls ih =>
            intro a r q hq
            rw [linesF] at hq
            split at hq
            · split at hq
              · rename_i hne
                cases hq; exact hne
              · exact ih _ _ _ hq
            · exact ih _ _ _ hq
        exact this _ _ _ _ he h
      · rename_i r he
        have i0 : RInv rdr0 := ⟨List.nodup_nil, fun _ h => (by cases h), List.nodup_nil, List.nodup_nil, fun _ h => (by cases h), fun _ h => (by cases h), .inl rfl⟩
        obtain ⟨hi, k, hk⟩ := lines_keep (linesL s) 0 rdr0 r 0 i0 kept0 (by have := (lines_ok s).2; omega) he
        unfold endR
        split
        · intro h; cases h
        · rename_i hc
          split
          · rename_i hr
            intro _
            exact ⟨hr, close_len _ _, hi.nl, hi.names, hi.ni, hi.no, hk.ins, hk.outs, hi.iok, hi.ook, by have := hi.depth; show 1 ≤ r.depth ∧ r.depth ≤ 64; omega⟩
          · intro h; cases h
end Go.Proofs.YtcdfjaaipbjpnaaGreatDoor

/- slices.Reverse of bytes. -/
namespace Go.Proofs.YtcdfjaaipbjpnaaGreatDoor
open Go.Sx
set_option linter.unusedVariables false
set_option linter.unusedSimpArgs false
set_option maxRecDepth 100000


/-- The first i turned with the last i. -/
def revF (n i : Nat) (b : Nat → Int) : Nat → Int := fun k => if k < i ∨ n ≤ k + i then b (n - 1 - k) else b k

theorem reverse_spec (n : Nat) (b : Nat → Int) (hn : n ≤ big) : Proc PG 33 1 [.own 0] [.vec 5 1 n fun k => [.int .u8 (b k)]] (.tup []) [.vec 5 1 n fun k => [.int .u8 (b (n - 1 - k))]] := by
  refine Proc.mk (cfg1 28) tysOK [0] Tryz.func33 rfl (by kernel_rfl) rfl rfl rfl ?_
  intro C x
  unfold big at hn
  refine x.loop (α := { i : Nat // 2 * i ≤ n + 1 }) (fun y => ⟨[(0, .own 0), (2, vi (y.1 : Int)), (3, vi ((n : Int) - 1 - (y.1 : Int)))], [(0, .vec 5 1 n fun k => [.int .u8 (revF n y.1 b k)])], 1⟩) (fun y => n - y.1) ⟨0, by omega⟩ rfl (show inI64 ((n : Int) - 1) by unfold inI64; omega) ?_ (fun y => ?_)
  · refine ⟨⟨rfl, rfl, ?_, trivial⟩, ⟨⟨rfl, rfl, rfl, fun i hi => ?_⟩, trivial⟩, rfl⟩
    · show (n : Int) - 1 = (n : Int) - 1 - 0; omega
    · show [D.int .u8 (b i)] = [D.int .u8 (revF n 0 b i)]
      rw [revF, if_neg (by omega)]
  obtain ⟨i, hi⟩ := y
  change Go C _ ⟨[(0, .own 0), (2, vi (i : Int)), (3, vi ((n : Int) - 1 - (i : Int)))], [(0, .vec 5 1 n fun k => [.int .u8 (revF n i b k)])], 1⟩ _
  refine x.cond rfl trivial (fun h => ?_) (fun h => ?_)
  · have h' : (i : Int) < (n : Int) - 1 - i := by simpa using h
    refine x.plan [0, 1, 2, 3, 4, 5, 8, 9] [6, 7, 10, 11, 12] [13, 14, 15] rfl trivial mixedP (by kernel_rfl) Ret.noPanic ?_
    refine x.qdone rfl ?_ ?_
    · simp only [AllP]; omega
    refine x.back rfl ?_ ?_
    · simp only [AllP, List.length, inI64]; omega
    refine ⟨⟨i + 1, by omega⟩, by show n - (i + 1) < n - i; omega, ⟨rfl, ?_, ?_, trivial⟩, ⟨⟨rfl, rfl, rfl, fun k hk => ?_⟩, trivial⟩, rfl⟩
    · show (i : Int) + 1 = ((i + 1 : Nat) : Int); omega
    · show (n : Int) - 1 - i - 1 = (n : Int) - 1 - ((i + 1 : Nat) : Int); omega
    · rw [put2_int, put2_int]
      show [D.int .u8 (if k = ((n : Int) - 1 - i).toNat then revF n i b (i : Int).toNat else if k = (i : Int).toNat then revF n i b ((n : Int) - 1 - i).toNat else revF n i b k)] = [D.int .u8 (revF n (i + 1) b k)]
      congr 2
      rw [show ((n : Int) - 1 - i).toNat = n - 1 - i by omega, show (i : Int).toNat = i by omega]
      have e1 : revF n i b i = b i := by rw [revF, if_neg (by omega)]
      have e2 : revF n i b (n - 1 - i) = b (n - 1 - i) := by rw [revF, if_neg (by omega)]
      rw [e1, e2]
      by_cases h1 : k = n - 1 - i
      · rw [if_pos h1, revF, if_pos (by omega), h1, show n - 1 - (n - 1 - i) = i by omega]
      · rw [if_neg h1]
        by_cases h2 : k = i
        · rw [if_pos h2, revF, if_pos (by omega), h2]
        · rw [if_neg h2, revF, revF]
          by_cases h3 : k < i ∨ n ≤ k + i
          · rw [if_pos h3, if_pos (by omega)]
          · rw [if_neg h3, if_neg (by omega)]
  · have h' : ¬ (i : Int) < (n : Int) - 1 - i := by simpa using h
    refine x.exit rfl trivial ?_
    refine ⟨.inl rfl, trivial, ⟨⟨rfl, rfl, rfl, fun k hk => ?_⟩, trivial⟩, rfl⟩
    show [D.int .u8 (revF n i b k)] = [D.int .u8 (b (n - 1 - k))]
    rw [revF]
    split
    · rfl
    · rw [show n - 1 - k = k by omega]
end Go.Proofs.YtcdfjaaipbjpnaaGreatDoor

/- The text of a number. -/
namespace Go.Proofs.YtcdfjaaipbjpnaaGreatDoor
open Go.Sx
set_option linter.unusedVariables false
set_option linter.unusedSimpArgs false
set_option maxRecDepth 100000

/-- The digits got so far, the last one first. -/
structure SI (u0 : Nat) where
  u : Nat
  l : List Int
  lo : ∀ x ∈ l, 48 ≤ x ∧ x ≤ 57
  same : digs0 u ++ (l.map fun x => UInt8.ofNat x.toNat).reverse = if l = [] then digs0 u0 else digs u0
  first : l = [] → u = u0
  len : l.length ≤ 20 ∧ u < 10 ^ (20 - l.length)

theorem turn_list (l : List Int) : (List.range l.length).map (fun i => UInt8.ofNat (l.getD (l.length - 1 - i) 0).toNat) = (l.map fun x => UInt8.ofNat x.toNat).reverse := by
  apply List.ext_getElem
  · simp
  · intro i h1 h2
    simp at h1
    have : l.length - 1 - i < l.length := by omega
    simp [this]

theorem show_spec (n : Int) (hn : inI64 n) : Pure PG 14 [vi n] (vs (showV n)) [] := by
  refine Proc.mk ⟨34, 0, false, tys⟩ tysOK [] Tryz.func14 rfl (by kernel_rfl) rfl rfl rfl ?_
  intro C x
  unfold inI64 at hn
  refine x.ite (α := Unit) (fun _ => ⟨[(3, .d (.int .u64 (n.natAbs : Int))), (4, vs (ba (sgV n)))], [], 0⟩) rfl trivial (fun h => ?_) (fun h => ?_) (fun _ => ?_)
  · refine x.back rfl trivial ⟨(), ⟨?_, ?_, trivial⟩, trivial, rfl⟩
    · show IntKind.u64.wrap (0 - IntKind.u64.wrap n) = n.natAbs
      have : n < 0 := by simpa using h
      rw [IntKind.wrap_u64, IntKind.wrap_u64]
      omega
    · show _ = ba (sgV n)
      rw [sgV, if_pos (by simpa using h)]
      rfl
  · refine x.back rfl trivial ⟨(), ⟨?_, ?_, trivial⟩, trivial, rfl⟩
    · show IntKind.u64.wrap n = n.natAbs
      have : ¬ n < 0 := by simpa using h
      rw [IntKind.wrap_u64]
      omega
    · show _ = ba (sgV n)
      rw [sgV, if_neg (by simpa using h)]
      rfl
  refine x.toLoop rfl trivial ?_
  refine Go.own 5 5 1 (fun _ => []) rfl ?_
  refine x.loop (α := SI n.natAbs) (fun y => ⟨[(3, .d (.int .u64 (y.u : Int))), (4, vs (ba (sgV n))), (5, .own 0)], [(0, .vec 5 1 y.l.length fun i => [.int .u8 (y.l.getD i 0)])], 1⟩) (fun y => 21 - y.l.length)
    ⟨n.natAbs, [], by simp, by simp, fun _ => rfl, by simp, by show n.natAbs < 100000000000000000000; omega⟩ rfl trivial ?_ (fun y => ?_)
  · exact ⟨⟨rfl, rfl, rfl, trivial⟩, ⟨⟨rfl, rfl, rfl, fun i hi => absurd hi (Nat.not_lt_zero _)⟩, trivial⟩, rfl⟩
  obtain ⟨u, l, lo, same, first, len⟩ := y
  change Go C _ ⟨[(3, .d (.int .u64 (u : Int))), (4, vs (ba (sgV n))), (5, .own 0)], [(0, .vec 5 1 l.length fun i => [.int .u8 (l.getD i 0)])], 1⟩ _
  refine x.cond rfl trivial (fun h => ?_) (fun h => ?_)
  · have h' : 0 < u ∨ l = [] := by
      simp only [Bool.or_eq_true, decide_eq_true_eq] at h
      rcases h with h | h
      · exact .inl (by omega)
      · exact .inr (List.length_eq_zero_iff.1 (by omega))
    have hl : l.length ≤ 19 := by
      rcases h' with h' | rfl
      · refine Classical.byContradiction fun hh => ?_
        have : l.length = 20 := by omega
        rw [this] at len
        simp at len
        omega
      · simp
    refine x.back rfl ?_ ?_
    · simp only [AllP, big]; omega
    have hd : IntKind.u8.wrap (IntKind.u64.wrap (48 + (u : Int).tmod 10)) = 48 + ((u % 10 : Nat) : Int) := by
      rw [IntKind.wrap_u64, IntKind.wrap_u8, Int.tmod_eq_emod_of_nonneg (by omega)]
      omega
    have hq : IntKind.u64.wrap ((u : Int).tdiv 10) = ((u / 10 : Nat) : Int) := by
      have h1 : u < 10 ^ 20 := Nat.lt_of_lt_of_le len.2 (Nat.pow_le_pow_right (by omega) (by omega))
      have h2 : u / 10 < 10000000000000000000 := by omega
      rw [Int.tdiv_eq_ediv_of_nonneg (by omega), IntKind.wrap_u64]
      omega
    refine ⟨⟨u / 10, l ++ [48 + ((u % 10 : Nat) : Int)], ?_, ?_, ?_, ?_⟩, ?_, ⟨?_, rfl, rfl, trivial⟩, ⟨⟨rfl, rfl, ?_, ?_⟩, trivial⟩, rfl⟩
    · intro y hy
      rcases List.mem_append.1 hy with hy | hy
      · exact lo y hy
      · rw [List.mem_singleton.1 hy]; omega
    · rw [if_neg (by simp)]
      simp only [List.map_append, List.map_cons, List.map_nil, List.reverse_append, List.reverse_cons, List.reverse_nil, List.nil_append, List.singleton_append]
      rw [show (48 + ((u % 10 : Nat) : Int)).toNat = 48 + u % 10 by omega]
      rw [show digs0 (u / 10) ++ UInt8.ofNat (48 + u % 10) :: (l.map fun x => UInt8.ofNat x.toNat).reverse = (digs0 (u / 10) ++ [UInt8.ofNat (48 + u % 10)]) ++ (l.map fun x => UInt8.ofNat x.toNat).reverse by simp]
      rw [digs0_app]
      rcases h' with h' | rfl
      · by_cases hl0 : l = []
        · rw [hl0, first hl0]; simp
        · rw [if_neg hl0, digs0, if_neg (by omega)] at same
          exact same
      · rw [first rfl]; simp
    · intro h; simp at h
    · refine ⟨by simp; omega, ?_⟩
      have h1 : 20 - l.length = (19 - l.length) + 1 := by omega
      rw [h1, Nat.pow_succ] at len
      rw [List.length_append, List.length_singleton, show 20 - (l.length + 1) = 19 - l.length by omega]
      omega
    · show 21 - (l ++ [_]).length < 21 - l.length
      simp; omega
    · exact hq
    · show l.length + 1 = (l ++ [_]).length
      simp
    · intro i hi
      have := app_list .u8 l (48 + ((u % 10 : Nat) : Int)) i hi
      refine Eq.trans ?_ this
      show app l.length _ (fun _ => [D.int .u8 (IntKind.u8.wrap (IntKind.u64.wrap (48 + (u : Int).tmod 10)))]) i = _
      rw [hd]
  · have h' : u = 0 ∧ l ≠ [] := by
      simp only [Bool.or_eq_false_iff, decide_eq_false_iff_not] at h
      exact ⟨by omega, fun e => h.2 (by rw [e]; rfl)⟩
    obtain ⟨rfl, hne⟩ := h'
    rw [if_neg hne, digs0, if_pos rfl, List.nil_append] at same
    refine x.call [0] rfl trivial rfl (reverse_spec l.length (fun k => l.getD k 0) (by unfold big; omega)) rfl ⟨rfl, trivial⟩ ⟨⟨rfl, rfl, rfl, fun _ _ => rfl⟩, trivial⟩ ?_
    refine x.exit rfl ?_ ?_
    · refine ⟨fun i hi => trivial, ?_⟩
      show (((ba (sgV n)).size + (bytesOf l.length fun k => [D.int .u8 (l.getD (l.length - 1 - k) 0)]).size : Nat) : Int) ≤ 9223372036854775807
      rw [bytesOf_ba, ba_size, ba_size]
      have : (sgV n).length ≤ 1 := by unfold sgV; split <;> simp
      simp only [List.length_map, List.length_range]
      omega
    refine ⟨.inr rfl, ?_, trivial, rfl⟩
    show ba (sgV n) ++ bytesOf l.length (fun k => [D.int .u8 (l.getD (l.length - 1 - k) 0)]) = showV n
    rw [bytesOf_ba, turn_list, same, ba_app]
    rfl

end Go.Proofs.YtcdfjaaipbjpnaaGreatDoor

/- Policies: what the program writes. -/
namespace Go.Proofs.YtcdfjaaipbjpnaaGreatDoor
open Go.Sx
set_option linter.unusedVariables false
set_option linter.unusedSimpArgs false
set_option maxRecDepth 100000

abbrev big6 : Nat := 140737488355328
def spB : ByteArray := ⟨#[32]⟩
def addB (acc : ByteArray) (ws : List ByteArray) : ByteArray := acc ++ (joinB ws spB ++ (⟨#[10]⟩ : ByteArray))
/-- Lines, as a text. -/
def tB (W : List (List ByteArray)) : ByteArray := W.foldl addB .empty
theorem tB_snoc (W : List (List ByteArray)) (ws : List ByteArray) : tB (W ++ [ws]) = addB (tB W) ws := by
  unfold tB
  rw [List.foldl_append]; rfl
theorem join_l : ∀ ws : List ByteArray, tl (joinB ws spB) = joinL ws
  | [] => rfl
  | [w] => by simp [joinB, Lib.join, joinL, tl]
  | w :: v :: r => by
    have ih := join_l (v :: r)
    rw [joinL, ← ih]
    show Lib.join ((w :: v :: r).map (·.data.toList)) [32] = tl w ++ 32 :: Lib.join ((v :: r).map (·.data.toList)) [32]
    simp [Lib.join]
theorem addB_l (acc : ByteArray) (ws : List ByteArray) : tl (addB acc ws) = tl acc ++ (joinL ws ++ [10]) := by
  unfold addB
  rw [tl, app_data, app_data, show (joinB ws spB).data.toList = joinL ws from join_l ws]
theorem tB_l (W : List (List ByteArray)) : tl (tB W) = textL W := by
  have : ∀ (W : List (List ByteArray)) (acc : ByteArray), tl (W.foldl addB acc) = tl acc ++ textL W := fun W => by
    induction W with
    | nil => intro acc; simp [textL]
    | cons ws W ih => intro acc; rw [List.foldl_cons, ih, addB_l]; simp [textL]
  exact this W .empty
theorem tB_size (W : List (List ByteArray)) : (tB W).size = (textL W).length := by rw [← tB_l, size_l]
theorem addB_size (acc : ByteArray) (ws : List ByteArray) : (addB acc ws).size = acc.size + ((joinB ws spB).size + 1) := by
  unfold addB
  rw [app_size, app_size]; rfl
/-- So far it is small. -/
theorem tB_small {p : Pol} (h : PolR p) {W V : List (List ByteArray)} (e : W ++ V = printW p) : (tB W).size ≤ 65536 := by
  have := (print_ok h).2.1
  rw [← e, textL_app, List.length_append] at this
  rw [tB_size]; omega
theorem add_small {p : Pol} (h : PolR p) {W V : List (List ByteArray)} {ws : List ByteArray} (e : (W ++ [ws]) ++ V = printW p) : (tB W).size + ((joinB ws spB).size + 1) ≤ 65536 := by
  have := tB_small h e
  rw [tB_snoc, addB_size] at this
  exact this

/-! ### the library -/
abbrev bldT : TypeId := 38
abbrev u8T : TypeId := 5
theorem pwrite_spec (l s : ByteArray) (h : l.size + s.size ≤ big6) : Proc PG 11 1 [.ptr 0 0, vs s] [.bld bldT (.own 1), bytesC u8T l] (.tup [vi s.size, .d .ni]) [.bld bldT (.own 1), bytesC u8T (l ++ s)] :=
  Proc.ofWrite (P := PG) (r := Tryz.lays156_ren) { Tryz.lays156 with } Tryz.Builder_Extra_156 (callable_of Tryz.func11 (by kernel_rfl) (by kernel_rfl)) l s h
theorem pstring_spec (l : ByteArray) : Proc PG 15 1 [.ptr 0 0] [.bld bldT (.own 1), bytesC u8T l] (vs l) [.box [.dead, .dead], .vec u8T 1 0 fun _ => []] :=
  Proc.ofString (P := PG) Tryz.lays169 Tryz.Builder_Extra_169 (callable_of Tryz.func15 (by kernel_rfl) (by kernel_rfl)) l
theorem pjoin_spec (xs : List ByteArray) (sep : ByteArray) (hN : xs.length ≤ big6) (hlen : (joinB xs sep).size ≤ big6) : Pure PG 12 [vSs xs, vs sep] (vs (joinB xs sep)) [] :=
  Pure.ofJoin (P := PG) Tryz.lays156 Tryz.Builder_Extra_156 (callable_of Tryz.func12 (by kernel_rfl) (by kernel_rfl)) xs sep hN hlen
theorem pline_spec (l : ByteArray) (ws : List ByteArray) (hN : ws.length ≤ big6) (h : l.size + ((joinB ws spB).size + 1) ≤ big6) : Proc PG 10 1 [vSs ws, .ptr 0 0] [.bld bldT (.own 1), bytesC u8T l] (.tup []) [.bld bldT (.own 1), bytesC u8T (addB l ws)] := by
  refine Proc.mk (cfgF 7 1) tysOK [0, 1] Tryz.func10 rfl (by kernel_rfl) rfl rfl rfl ?_
  intro C x
  unfold big6 at h hN
  refine x.pure rfl trivial rfl (pjoin_spec ws spB hN (by unfold big6; omega)) ⟨veq_d rfl, rfl, trivial⟩ ?_
  refine x.call [0, 1] rfl (by simp only [AllP]; show (((joinB ws spB).size + 1 : Nat) : Int) ≤ _; omega) rfl (pwrite_spec l (joinB ws spB ++ (⟨#[10]⟩ : ByteArray)) (by rw [app_size]; exact h)) rfl ⟨⟨rfl, rfl⟩, rfl, trivial⟩ ⟨⟨rfl, rfl⟩, ⟨rfl, rfl, rfl, fun _ _ => rfl⟩, trivial⟩ ?_
  refine x.exit rfl trivial ?_
  exact ⟨.inl rfl, trivial, ⟨⟨rfl, rfl⟩, ⟨rfl, rfl, rfl, fun _ _ => rfl⟩, trivial⟩, rfl⟩

theorem ev2 {α : Type} {f g : Nat → α} (h0 : f 0 = g 0) (h1 : f 1 = g 1) : ∀ i, i < 2 → f i = g i
  | 0, _ => h0
  | 1, _ => h1
  | n + 2, h => by omega
theorem ev3 {α : Type} {f g : Nat → α} (h0 : f 0 = g 0) (h1 : f 1 = g 1) (h2 : f 2 = g 2) : ∀ i, i < 3 → f i = g i
  | 0, _ => h0
  | 1, _ => h1
  | 2, _ => h2
  | n + 3, h => by omega
theorem bytes_eq {T : TypeId} {a b : ByteArray} (h : a = b) : ChEq (bytesC T a) (bytesC T b) := by subst h; exact ⟨rfl, rfl, rfl, fun _ _ => rfl⟩
/-- The text of a policy, an error's number. -/
def printPol (p : Pol) : ByteArray × Int := if rightP p then (tB (printW p), 0) else (.empty, 1)
theorem getD_at {α : Type} {l : List α} {a0 : α} {i : Nat} (h : i < l.length) : l[i]? = some (l.getD i a0) := by
  rw [List.getD_eq_getElem?_getD, List.getElem?_eq_getElem h]; rfl
theorem take_map {α : Type} (f : α → List ByteArray) {l : List α} {a0 : α} {i : Nat} (h : i < l.length) : (l.take (i + 1)).map f = (l.take i).map f ++ [f (l.getD i a0)] := by
  rw [take_succ (getD_at (a0 := a0) h), List.map_append]; rfl
theorem take_cut {α : Type} (f : α → List ByteArray) {l : List α} (i : Nat) : (l.take i).map f ++ (l.drop i).map f = l.map f := by rw [← List.map_append, List.take_append_drop]

set_option maxHeartbeats 8000000 in
theorem pprint_spec (p : Pol) (hz : PolZ p) : Pure PG 4 [vPol p] (.tup [vs (printPol p).1, vi (printPol p).2]) [] := by
  refine Proc.mk (cfg 99) tysOK [] Tryz.func4 rfl (by kernel_rfl) rfl rfl rfl ?_
  intro C x
  refine x.pure rfl trivial rfl (pright_spec p hz) ⟨⟨veq0_d rfl, veq0_d rfl, veq0_d rfl, veq0_d rfl, rfl, trivial⟩, trivial⟩ ?_
  refine x.cond rfl trivial (fun h => ?_) (fun h => ?_)
  · have h : (!rightP p) = true := h
    refine x.exit rfl trivial ?_
    unfold printPol
    rw [if_neg (by simpa using h)]
    exact ⟨.inr rfl, ⟨rfl, rfl, trivial⟩, trivial, rfl⟩
  have h : (!rightP p) = false := h
  have hr : rightP p = true := by simpa using h
  have hR := (right_iff p).1 hr
  unfold printPol
  rw [if_pos hr]
  clear h
  have ho : orderM p.up = true := by have := hR.up; unfold rightM at this; rw [Bool.and_eq_true] at this; exact this.1
  have hl64 := (order_len ho).2
  have hlen := hR.len
  have hil := hR.il
  have hol := hR.ol
  have hcf := covers_few hR.up
  refine x.toLoop rfl trivial ?_
  refine Go.ownBld 1 u8T bldT 1 (fun i => [.int .u8 (sb .empty i)]) rfl ?_
  refine x.loop (α := { i : Nat // i ≤ p.lev.length }) (fun y => ⟨[(1, .ptr 0 0), (4, .ptr 1 0), (5, .fn 10 [.ptr 1 0]), (19, vSs p.lev), (20, vi p.lev.length), (21, vi (y.1 : Int))], [(0, polB p), (1, .bld bldT (.own 2)), (2, bytesC u8T (tB (levW (p.lev.take y.1))))], 3⟩) (fun y => p.lev.length - y.1) ⟨0, Nat.zero_le _⟩ rfl trivial ⟨⟨⟨rfl, rfl⟩, ⟨rfl, rfl⟩, rfl, veq_d rfl, rfl, rfl, trivial⟩, ⟨polB_eq p, ⟨rfl, rfl⟩, ⟨rfl, rfl, rfl, fun _ _ => rfl⟩, trivial⟩, rfl⟩ (fun y => ?_)
  obtain ⟨i, hi⟩ := y
  change Go C _ ⟨[(1, .ptr 0 0), (4, .ptr 1 0), (5, .fn 10 [.ptr 1 0]), (19, vSs p.lev), (20, vi p.lev.length), (21, vi (i : Int))], [(0, polB p), (1, .bld bldT (.own 2)), (2, bytesC u8T (tB (levW (p.lev.take i))))], 3⟩ _
  refine x.cond rfl trivial (fun h2 => ?_) (fun h2 => ?_)
  · have h2 : i < p.lev.length := by have := of_decide_eq_true h2; omega
    have hsuc : levW (p.lev.take (i + 1)) = levW (p.lev.take i) ++ [[wB wLevel, p.lev.getD i .empty]] := take_map _ h2
    have hsm := add_small hR (W := levW (p.lev.take i)) (ws := [wB wLevel, p.lev.getD i .empty]) (V := levW (p.lev.drop (i + 1)) ++ (flowW p.lev (coversM p.up) ++ (chanW wInput p.lev p.ins ++ (chanW wOutput p.lev p.outs ++ depW p.depth)))) (by
      rw [← hsuc, ← List.append_assoc, show levW (p.lev.take (i + 1)) ++ levW (p.lev.drop (i + 1)) = levW p.lev from take_cut _ (i + 1)]; rfl)
    refine x.op rfl (by simp only [AllP]; omega) ?_
    refine Sx.Go.freeze 3 ?_
    refine x.call [1, 2] rfl trivial rfl (pline_spec (tB (levW (p.lev.take i))) [wB wLevel, p.lev.getD i .empty] (Nat.le_of_ble_eq_true rfl) (by unfold big6; omega)) rfl ⟨⟨rfl, fun _ => rfl, ev2 rfl rfl⟩, ⟨rfl, rfl⟩, trivial⟩ ⟨⟨rfl, rfl⟩, ⟨rfl, rfl, rfl, fun _ _ => rfl⟩, trivial⟩ ?_
    refine x.back rfl (by simp only [AllP, inI64]; omega) ⟨⟨i + 1, by omega⟩, by show p.lev.length - (i + 1) < p.lev.length - i; omega, ⟨⟨rfl, rfl⟩, ⟨rfl, rfl⟩, rfl, veq_d rfl, rfl, (show VEq0 (vi ((i : Int) + 1)) (vi ((i + 1 : Nat) : Int)) by rw [Int.natCast_add]; rfl), trivial⟩, ⟨polB_eq p, ⟨rfl, rfl⟩, bytes_eq (by rw [hsuc, tB_snoc]), trivial⟩, rfl⟩
  have h2 : i = p.lev.length := by have := of_decide_eq_false h2; omega
  subst h2
  rw [List.take_length]
  refine x.pure rfl trivial rfl (pcovers_spec p.up hR.up) ⟨veq_d rfl, trivial⟩ ?_
  refine x.loop (α := { i : Nat // i ≤ (coversM p.up).length }) (fun y => ⟨[(1, .ptr 0 0), (4, .ptr 1 0), (5, .fn 10 [.ptr 1 0]), (32, vPairs (coversM p.up)), (33, vi (coversM p.up).length), (34, vi (y.1 : Int))], [(0, polB p), (1, .bld bldT (.own 2)), (2, bytesC u8T (tB (levW p.lev ++ flowW p.lev ((coversM p.up).take y.1))))], 3⟩) (fun y => (coversM p.up).length - y.1) ⟨0, Nat.zero_le _⟩ rfl trivial ⟨⟨⟨rfl, rfl⟩, ⟨rfl, rfl⟩, rfl, veq_d rfl, rfl, rfl, trivial⟩, ⟨polB_eq p, ⟨rfl, rfl⟩, bytes_eq (by simp [flowW]), trivial⟩, rfl⟩ (fun y => ?_)
  obtain ⟨i, hi⟩ := y
  change Go C _ ⟨[(1, .ptr 0 0), (4, .ptr 1 0), (5, .fn 10 [.ptr 1 0]), (32, vPairs (coversM p.up)), (33, vi (coversM p.up).length), (34, vi (i : Int))], [(0, polB p), (1, .bld bldT (.own 2)), (2, bytesC u8T (tB (levW p.lev ++ flowW p.lev ((coversM p.up).take i))))], 3⟩ _
  refine x.cond rfl trivial (fun h2 => ?_) (fun h2 => ?_)
  · have h2 : i < (coversM p.up).length := by have := of_decide_eq_true h2; omega
    obtain ⟨c, hc⟩ : ∃ c, (coversM p.up).getD i (0, 0) = c := ⟨_, rfl⟩
    have hcl : c.1 < p.lev.length ∧ c.2 < p.lev.length := by
      rw [← hlen, ← hc]
      exact covers_lt (ord_of ho) _ (List.mem_of_getElem? (getD_at h2))
    have hsuc : flowW p.lev ((coversM p.up).take (i + 1)) = flowW p.lev ((coversM p.up).take i) ++ [[wB wFlow, p.lev.getD c.1 .empty, p.lev.getD c.2 .empty]] := by rw [← hc]; exact take_map (a0 := (0, 0)) (fun c : Nat × Nat => [wB wFlow, p.lev.getD c.1 .empty, p.lev.getD c.2 .empty]) h2
    have hsm := add_small hR (W := levW p.lev ++ flowW p.lev ((coversM p.up).take i)) (ws := [wB wFlow, p.lev.getD c.1 .empty, p.lev.getD c.2 .empty]) (V := flowW p.lev ((coversM p.up).drop (i + 1)) ++ (chanW wInput p.lev p.ins ++ (chanW wOutput p.lev p.outs ++ depW p.depth))) (by
      rw [List.append_assoc (levW p.lev), ← hsuc, List.append_assoc, ← List.append_assoc (flowW p.lev _), show flowW p.lev ((coversM p.up).take (i + 1)) ++ flowW p.lev ((coversM p.up).drop (i + 1)) = flowW p.lev (coversM p.up) from take_cut _ (i + 1)]; rfl)
    have ei : ((i : Int).toNat) = i := Int.toNat_natCast i
    have hce : (coversM p.up).getD ((i : Int).toNat) (0, 0) = c := by rw [ei]; exact hc
    refine x.plan [0] [1, 2, 3, 4, 5, 6, 7, 8, 9, 10, 11, 12] [13, 14] rfl (by simp only [AllP]; omega) mixedP (by kernel_rfl) Ret.noPanic ?_
    rw [hce]
    refine x.qdone rfl (by simp only [AllP]; omega) ?_
    refine x.op rfl trivial ?_
    refine Sx.Go.freeze 4 ?_
    refine x.call [1, 2] rfl trivial rfl (pline_spec (tB (levW p.lev ++ flowW p.lev ((coversM p.up).take i))) [wB wFlow, p.lev.getD c.1 .empty, p.lev.getD c.2 .empty] (Nat.le_of_ble_eq_true rfl) (by unfold big6; omega)) rfl ⟨⟨rfl, fun _ => rfl, ev3 rfl rfl rfl⟩, ⟨rfl, rfl⟩, trivial⟩ ⟨⟨rfl, rfl⟩, ⟨rfl, rfl, rfl, fun _ _ => rfl⟩, trivial⟩ ?_
    refine x.back rfl (by simp only [AllP, inI64]; omega) ⟨⟨i + 1, by omega⟩, by show (coversM p.up).length - (i + 1) < (coversM p.up).length - i; omega, ⟨⟨rfl, rfl⟩, ⟨rfl, rfl⟩, rfl, veq_d rfl, rfl, (show VEq0 (vi ((i : Int) + 1)) (vi ((i + 1 : Nat) : Int)) by rw [Int.natCast_add]; rfl), trivial⟩, ⟨polB_eq p, ⟨rfl, rfl⟩, bytes_eq (by rw [hsuc, ← List.append_assoc, tB_snoc]), trivial⟩, rfl⟩
  have h2 : i = (coversM p.up).length := by have := of_decide_eq_false h2; omega
  subst h2
  rw [List.take_length]
  refine x.loop (α := { i : Nat // i ≤ p.ins.length }) (fun y => ⟨[(1, .ptr 0 0), (4, .ptr 1 0), (5, .fn 10 [.ptr 1 0]), (55, vChs p.ins), (56, vi p.ins.length), (57, vi (y.1 : Int))], [(0, polB p), (1, .bld bldT (.own 2)), (2, bytesC u8T (tB (levW p.lev ++ flowW p.lev (coversM p.up) ++ chanW wInput p.lev (p.ins.take y.1))))], 3⟩) (fun y => p.ins.length - y.1) ⟨0, Nat.zero_le _⟩ rfl trivial ⟨⟨⟨rfl, rfl⟩, ⟨rfl, rfl⟩, rfl, veq_d rfl, rfl, rfl, trivial⟩, ⟨polB_eq p, ⟨rfl, rfl⟩, bytes_eq (by simp [chanW]), trivial⟩, rfl⟩ (fun y => ?_)
  obtain ⟨i, hi⟩ := y
  change Go C _ ⟨[(1, .ptr 0 0), (4, .ptr 1 0), (5, .fn 10 [.ptr 1 0]), (55, vChs p.ins), (56, vi p.ins.length), (57, vi (i : Int))], [(0, polB p), (1, .bld bldT (.own 2)), (2, bytesC u8T (tB (levW p.lev ++ flowW p.lev (coversM p.up) ++ chanW wInput p.lev (p.ins.take i))))], 3⟩ _
  refine x.cond rfl trivial (fun h2 => ?_) (fun h2 => ?_)
  · have h2 : i < p.ins.length := by have := of_decide_eq_true h2; omega
    obtain ⟨c, hc⟩ : ∃ c, p.ins.getD i chan0 = c := ⟨_, rfl⟩
    have hcl : OKC p.lev c := by rw [← hc]; exact hR.iok _ (List.mem_of_getElem? (getD_at h2))
    obtain ⟨c1, c2, c3⟩ := hcl
    have hsuc : chanW wInput p.lev (p.ins.take (i + 1)) = chanW wInput p.lev (p.ins.take i) ++ [[wB wInput, c.1, p.lev.getD c.2.toNat .empty]] := by rw [← hc]; exact take_map (a0 := chan0) (fun c : Chan => [wB wInput, c.1, p.lev.getD c.2.toNat .empty]) h2
    have hsm := add_small hR (W := levW p.lev ++ flowW p.lev (coversM p.up) ++ chanW wInput p.lev (p.ins.take i)) (ws := [wB wInput, c.1, p.lev.getD c.2.toNat .empty]) (V := chanW wInput p.lev (p.ins.drop (i + 1)) ++ (chanW wOutput p.lev p.outs ++ depW p.depth)) (by
      rw [List.append_assoc (levW p.lev ++ _), ← hsuc, List.append_assoc, ← List.append_assoc (chanW wInput p.lev _), show chanW wInput p.lev (p.ins.take (i + 1)) ++ chanW wInput p.lev (p.ins.drop (i + 1)) = chanW wInput p.lev p.ins from take_cut _ (i + 1), List.append_assoc]; rfl)
    have ei : ((i : Int).toNat) = i := Int.toNat_natCast i
    have hce : p.ins.getD ((i : Int).toNat) chan0 = c := by rw [ei]; exact hc
    refine x.plan [0] [1, 2, 3, 4, 5, 6, 7, 8] [9, 10] rfl (by simp only [AllP]; omega) mixedP (by kernel_rfl) Ret.noPanic ?_
    rw [hce]
    refine x.qdone rfl (by simp only [AllP]; omega) ?_
    refine x.op rfl trivial ?_
    refine Sx.Go.freeze 4 ?_
    refine x.call [1, 2] rfl trivial rfl (pline_spec (tB (levW p.lev ++ flowW p.lev (coversM p.up) ++ chanW wInput p.lev (p.ins.take i))) [wB wInput, c.1, p.lev.getD c.2.toNat .empty] (Nat.le_of_ble_eq_true rfl) (by unfold big6; omega)) rfl ⟨⟨rfl, fun _ => rfl, ev3 rfl rfl rfl⟩, ⟨rfl, rfl⟩, trivial⟩ ⟨⟨rfl, rfl⟩, ⟨rfl, rfl, rfl, fun _ _ => rfl⟩, trivial⟩ ?_
    refine x.back rfl (by simp only [AllP, inI64]; omega) ⟨⟨i + 1, by omega⟩, by show p.ins.length - (i + 1) < p.ins.length - i; omega, ⟨⟨rfl, rfl⟩, ⟨rfl, rfl⟩, rfl, veq_d rfl, rfl, (show VEq0 (vi ((i : Int) + 1)) (vi ((i + 1 : Nat) : Int)) by rw [Int.natCast_add]; rfl), trivial⟩, ⟨polB_eq p, ⟨rfl, rfl⟩, bytes_eq (by rw [hsuc, ← List.append_assoc, tB_snoc]), trivial⟩, rfl⟩
  have h2 : i = p.ins.length := by have := of_decide_eq_false h2; omega
  subst h2
  rw [List.take_length]
  refine x.loop (α := { i : Nat // i ≤ p.outs.length }) (fun y => ⟨[(1, .ptr 0 0), (4, .ptr 1 0), (5, .fn 10 [.ptr 1 0]), (74, vChs p.outs), (75, vi p.outs.length), (76, vi (y.1 : Int))], [(0, polB p), (1, .bld bldT (.own 2)), (2, bytesC u8T (tB (levW p.lev ++ flowW p.lev (coversM p.up) ++ chanW wInput p.lev p.ins ++ chanW wOutput p.lev (p.outs.take y.1))))], 3⟩) (fun y => p.outs.length - y.1) ⟨0, Nat.zero_le _⟩ rfl trivial ⟨⟨⟨rfl, rfl⟩, ⟨rfl, rfl⟩, rfl, veq_d rfl, rfl, rfl, trivial⟩, ⟨polB_eq p, ⟨rfl, rfl⟩, bytes_eq (by simp [chanW]), trivial⟩, rfl⟩ (fun y => ?_)
  obtain ⟨i, hi⟩ := y
  change Go C _ ⟨[(1, .ptr 0 0), (4, .ptr 1 0), (5, .fn 10 [.ptr 1 0]), (74, vChs p.outs), (75, vi p.outs.length), (76, vi (i : Int))], [(0, polB p), (1, .bld bldT (.own 2)), (2, bytesC u8T (tB (levW p.lev ++ flowW p.lev (coversM p.up) ++ chanW wInput p.lev p.ins ++ chanW wOutput p.lev (p.outs.take i))))], 3⟩ _
  refine x.cond rfl trivial (fun h2 => ?_) (fun h2 => ?_)
  · have h2 : i < p.outs.length := by have := of_decide_eq_true h2; omega
    obtain ⟨c, hc⟩ : ∃ c, p.outs.getD i chan0 = c := ⟨_, rfl⟩
    have hcl : OKC p.lev c := by rw [← hc]; exact hR.ook _ (List.mem_of_getElem? (getD_at h2))
    obtain ⟨c1, c2, c3⟩ := hcl
    have hsuc : chanW wOutput p.lev (p.outs.take (i + 1)) = chanW wOutput p.lev (p.outs.take i) ++ [[wB wOutput, c.1, p.lev.getD c.2.toNat .empty]] := by rw [← hc]; exact take_map (a0 := chan0) (fun c : Chan => [wB wOutput, c.1, p.lev.getD c.2.toNat .empty]) h2
    have hsm := add_small hR (W := levW p.lev ++ flowW p.lev (coversM p.up) ++ chanW wInput p.lev p.ins ++ chanW wOutput p.lev (p.outs.take i)) (ws := [wB wOutput, c.1, p.lev.getD c.2.toNat .empty]) (V := chanW wOutput p.lev (p.outs.drop (i + 1)) ++ depW p.depth) (by
      rw [List.append_assoc (levW p.lev ++ _ ++ _), ← hsuc, List.append_assoc, ← List.append_assoc (chanW wOutput p.lev _), show chanW wOutput p.lev (p.outs.take (i + 1)) ++ chanW wOutput p.lev (p.outs.drop (i + 1)) = chanW wOutput p.lev p.outs from take_cut _ (i + 1), List.append_assoc, List.append_assoc]; rfl)
    have ei : ((i : Int).toNat) = i := Int.toNat_natCast i
    have hce : p.outs.getD ((i : Int).toNat) chan0 = c := by rw [ei]; exact hc
    refine x.plan [0] [1, 2, 3, 4, 5, 6, 7, 8] [9, 10] rfl (by simp only [AllP]; omega) mixedP (by kernel_rfl) Ret.noPanic ?_
    rw [hce]
    refine x.qdone rfl (by simp only [AllP]; omega) ?_
    refine x.op rfl trivial ?_
    refine Sx.Go.freeze 4 ?_
    refine x.call [1, 2] rfl trivial rfl (pline_spec (tB (levW p.lev ++ flowW p.lev (coversM p.up) ++ chanW wInput p.lev p.ins ++ chanW wOutput p.lev (p.outs.take i))) [wB wOutput, c.1, p.lev.getD c.2.toNat .empty] (Nat.le_of_ble_eq_true rfl) (by unfold big6; omega)) rfl ⟨⟨rfl, fun _ => rfl, ev3 rfl rfl rfl⟩, ⟨rfl, rfl⟩, trivial⟩ ⟨⟨rfl, rfl⟩, ⟨rfl, rfl, rfl, fun _ _ => rfl⟩, trivial⟩ ?_
    refine x.back rfl (by simp only [AllP, inI64]; omega) ⟨⟨i + 1, by omega⟩, by show p.outs.length - (i + 1) < p.outs.length - i; omega, ⟨⟨rfl, rfl⟩, ⟨rfl, rfl⟩, rfl, veq_d rfl, rfl, (show VEq0 (vi ((i : Int) + 1)) (vi ((i + 1 : Nat) : Int)) by rw [Int.natCast_add]; rfl), trivial⟩, ⟨polB_eq p, ⟨rfl, rfl⟩, bytes_eq (by rw [hsuc, ← List.append_assoc, tB_snoc]), trivial⟩, rfl⟩
  have h2 : i = p.outs.length := by have := of_decide_eq_false h2; omega
  subst h2
  rw [List.take_length]
  have he : (levW p.lev ++ flowW p.lev (coversM p.up) ++ chanW wInput p.lev p.ins ++ chanW wOutput p.lev p.outs) ++ [[wB wDepth, showV p.depth]] = printW p := by
    rw [List.append_assoc, List.append_assoc, List.append_assoc]; rfl
  have hsm := add_small hR (V := []) (by rw [List.append_nil]; exact he)
  have hd := hR.depth
  refine x.pure rfl trivial rfl (show_spec p.depth (by unfold inI64; omega)) ⟨rfl, trivial⟩ ?_
  refine x.op rfl trivial ?_
  refine Sx.Go.freeze 3 ?_
  refine x.call [1, 2] rfl trivial rfl (pline_spec (tB (levW p.lev ++ flowW p.lev (coversM p.up) ++ chanW wInput p.lev p.ins ++ chanW wOutput p.lev p.outs)) [wB wDepth, showV p.depth] (Nat.le_of_ble_eq_true rfl) (by unfold big6; omega)) rfl ⟨⟨rfl, fun _ => rfl, ev2 rfl rfl⟩, ⟨rfl, rfl⟩, trivial⟩ ⟨⟨rfl, rfl⟩, ⟨rfl, rfl, rfl, fun _ _ => rfl⟩, trivial⟩ ?_
  rw [← tB_snoc, he]
  refine x.call [1, 2] rfl trivial rfl (pstring_spec (tB (printW p))) rfl ⟨⟨rfl, rfl⟩, trivial⟩ ⟨⟨rfl, rfl⟩, ⟨rfl, rfl, rfl, fun _ _ => rfl⟩, trivial⟩ ?_
  refine x.exit rfl trivial ?_
  exact ⟨.inr rfl, ⟨rfl, rfl, trivial⟩, trivial, rfl⟩
end Go.Proofs.YtcdfjaaipbjpnaaGreatDoor

/- Policies that are handed in, as data; a row whose walk wants the world's shape. -/
namespace Go.Proofs.YtcdfjaaipbjpnaaGreatDoor
open Go.Sx
set_option linter.unusedVariables false
set_option linter.unusedSimpArgs false

theorem conf_lst {α : Type} {z : Nat} {τ : List DTy} {x : D} (d : α → List D) (P : α → Prop) (a0 : α) (each : ∀ ds, Conf τ ds → ∃ a, P a ∧ ds.length = (d a).length ∧ ∀ (j : Nat) (u u' : D), ds[j]? = some u → (d a)[j]? = some u' → DQ u u')
    (h : Conf1 (.sl z τ) x) : ∃ l : List α, DQ x (.sl τ.length l.length fun i => d (l.getD i a0)) ∧ (l.length ≤ maxLen ∧ l.length * z ≤ reachBytes) ∧ ∀ a ∈ l, P a := by
  cases h with
  | sl _ _ n f hn hz hl hc =>
    have each' : ∀ i, i < n → ∃ a, P a ∧ (f i).length = (d a).length ∧ ∀ (j : Nat) (u u' : D), (f i)[j]? = some u → (d a)[j]? = some u' → DQ u u' := fun i hi => each (f i) ⟨hl i hi, fun j t d ht hd => hc i j t d hi ht hd⟩
    let g : Nat → α := fun i => if h : i < n then Classical.choose (each' i h) else a0
    have hg : ∀ i, i < n → P (g i) ∧ (f i).length = (d (g i)).length ∧ ∀ (j : Nat) (u u' : D), (f i)[j]? = some u → (d (g i))[j]? = some u' → DQ u u' := fun i hi => by
      have e : g i = Classical.choose (each' i hi) := by simp only [g, hi, dite_true]
      rw [e]
      exact Classical.choose_spec (each' i hi)
    have hgd : ∀ i, i < n → ((List.range n).map g).getD i a0 = g i := fun i hi => by
      rw [List.getD_eq_getElem?_getD, List.getElem?_eq_getElem (by simpa using hi)]; simp
    refine ⟨(List.range n).map g, ?_, by simpa using ⟨hn, hz⟩, fun o ho => ?_⟩
    · rw [show ((List.range n).map g).length = n by simp]
      refine .sl _ n _ _ (fun i hi => ?_) fun i j u u' hi hd hd' => ?_
      · rw [hgd i hi]; exact (hg i hi).2.1
      · rw [hgd i hi] at hd'
        exact (hg i hi).2.2 j u u' hd hd'
    · obtain ⟨i, hi, rfl⟩ := List.mem_map.1 ho
      exact (hg i (List.mem_range.1 hi)).1
def StrZ (s : ByteArray) : Prop := s.size ≤ 140737488355328
theorem reach_z {s : ByteArray} (h : s.size ≤ reachBytes) : StrZ s := by
  have := reachBytes_lt
  unfold StrZ; omega
theorem wf_i64 {n : Int} (h : (Lit.int .i64 n).wf = true) : inI64 n := by
  simp only [Lit.wf, Bool.and_eq_true, decide_eq_true_eq] at h
  exact h
theorem wf_u64 {n : Int} (h : (Lit.int .u64 n).wf = true) : 0 ≤ n ∧ n ≤ 18446744073709551615 := by
  simp only [Lit.wf, Bool.and_eq_true, decide_eq_true_eq] at h
  exact h
structure PolOK (p : Pol) : Prop where
  sz : PolSz p
  lev : ∀ s ∈ p.lev, StrZ s
  ins : ∀ c ∈ p.ins, StrZ c.1 ∧ inI64 c.2
  outs : ∀ c ∈ p.outs, StrZ c.1 ∧ inI64 c.2
  depth : inI64 p.depth
theorem conf_ss {z : Nat} {x : D} (h : Conf1 (.sl z [.str]) x) : ∃ l : List ByteArray, DQ x (dSs l) ∧ (l.length ≤ maxLen ∧ l.length * z ≤ reachBytes) ∧ ∀ a ∈ l, StrZ a :=
  conf_lst (fun s => [D.str s]) StrZ .empty (fun ds ⟨hl, hc⟩ => by
    match ds, hl with
    | [d0], _ =>
      obtain ⟨s, rfl, h1, h2⟩ := conf_str (hc 0 _ _ rfl rfl)
      refine ⟨s, reach_z h2, rfl, fun j u u' hd hd' => ?_⟩
      match j with
      | 0 => simp at hd hd'; subst hd hd'; exact .refl _
      | j + 1 => simp at hd) h
theorem conf_up {z : Nat} {x : D} (h : Conf1 (.sl z [.int .u64]) x) : ∃ l : List M64, DQ x (dUp l) ∧ (l.length ≤ maxLen ∧ l.length * z ≤ reachBytes) ∧ ∀ a ∈ l, True :=
  conf_lst (fun m => [dm m]) (fun _ => True) 0#64 (fun ds ⟨hl, hc⟩ => by
    match ds, hl with
    | [d0], _ =>
      obtain ⟨n, rfl, h1⟩ := conf_int (hc 0 _ _ rfl rfl)
      have h2 := wf_u64 h1
      refine ⟨BitVec.ofInt 64 n, trivial, rfl, fun j u u' hd hd' => ?_⟩
      match j with
      | 0 =>
        simp only [List.getElem?_cons_zero, Option.some.injEq] at hd hd'
        subst hd hd'
        have e : ((BitVec.ofInt 64 n).toNat : Int) = n := by
          rw [BitVec.toNat_ofInt]; omega
        unfold dm
        rw [e]; exact .refl _
      | j + 1 => simp at hd) h
theorem conf_chs {z : Nat} {x : D} (h : Conf1 (.sl z [.str, .int .i64]) x) : ∃ l : List Chan, DQ x (dChs l) ∧ (l.length ≤ maxLen ∧ l.length * z ≤ reachBytes) ∧ ∀ a ∈ l, StrZ a.1 ∧ inI64 a.2 :=
  conf_lst (fun c : Chan => [D.str c.1, D.int .i64 c.2]) (fun c => StrZ c.1 ∧ inI64 c.2) chan0 (fun ds ⟨hl, hc⟩ => by
    match ds, hl with
    | [d0, d1], _ =>
      obtain ⟨s, rfl, h1, h2⟩ := conf_str (hc 0 _ _ rfl rfl)
      obtain ⟨n, rfl, h3⟩ := conf_int (hc 1 _ _ rfl rfl)
      refine ⟨(s, n), ⟨reach_z h2, wf_i64 h3⟩, rfl, fun j u u' hd hd' => ?_⟩
      match j with
      | 0 => simp at hd hd'; subst hd hd'; exact .refl _
      | 1 => simp at hd hd'; subst hd hd'; exact .refl _
      | j + 2 => simp at hd) h
abbrev polTy : List DTy := [.sl 16 [.str], .sl 8 [.int .u64], .sl 24 [.str, .int .i64], .sl 24 [.str, .int .i64], .int .i64]
theorem conf_polV {F : Nat → Prop} {w : World} {ρ : Nat → Value} {ds : List D} {cs : List Value} (h : Conf polTy ds) (hr : All2 (RD F w) ds cs) : ∃ x : Pol, PolOK x ∧ R3 ρ F w (vPol x) (.agg cs.toArray) := by
  obtain ⟨hl, hc⟩ := h
  match ds, hl, cs, hr with
  | [d0, d1, d2, d3, d4], _, [c0, c1, c2, c3, c4], ⟨r0, r1, r2, r3, r4, _⟩ =>
    obtain ⟨l0, q0, w0, z0⟩ := conf_ss (hc 0 _ _ rfl rfl)
    obtain ⟨l1, q1, w1, z1⟩ := conf_up (hc 1 _ _ rfl rfl)
    obtain ⟨l2, q2, w2, z2⟩ := conf_chs (hc 2 _ _ rfl rfl)
    obtain ⟨l3, q3, w3, z3⟩ := conf_chs (hc 3 _ _ rfl rfl)
    obtain ⟨n4, rfl, w4⟩ := conf_int (hc 4 _ _ rfl rfl)
    have := reachBytes_lt
    exact ⟨⟨l0, l1, l2, l3, n4⟩, ⟨⟨by show l0.length * 16 ≤ _; omega, by show l1.length * 8 ≤ _; omega, by show l2.length * 24 ≤ _; omega, by show l3.length * 24 ≤ _; omega⟩, z0, z2, z3, wf_i64 w4⟩, ⟨_, rfl, q0.sound r0, q1.sound r1, q2.sound r2, q3.sound r3, r4, trivial⟩⟩

/-- A row's claim from a walk that is told what the tables hold and that the world has the program's shape. -/
theorem returns_shaped {H : Type} {enc : TypeId × Value → H} {a : Assume} {C : Checked} {os : Os} {f : FuncId} {fn : Func} {s : ChangeSpec} {conds : List PathCond} {apart fresh handsOn again : Bool} {X : World → Array Value → Prop}
    (hX : ∀ (w w' : World) (args : Array Value), w.heap = w'.heap → X w args → X w' args)
    (own : ownKnob C.prog.godebug = none) (started : os.Started) (noInit : C.prog.inits.idxOf? f = none) (hfn : C.prog.funcs[f]? = some fn)
    (witness : ∃ (w : World) (tape : Tape) (i : Input), w.os = os ∧ (w.forCall tape i).Shaped C.prog ∧ i.vars = [] ∧ Input.okWide C.prog (w.forCall tape i) .any w.heap.size f i ∧
      ((s.pre enc C.prog fn conds apart (w.forCall tape i).memory i.args ∧ X (w.forCall tape i).memory i.args) ∧ sizedMet enc C.prog fn (OpenSpec.ofChange s) apart (w.forCall tape i).memory i.args) ∧ a.holds C.prog (lone (Frame.enter C.prog f i.args .normal) [] (w.forCall tape i)))
    (walk : ∀ (W : World) (base : Nat) (args : Array Value) (ds gs : List (DataW H)) (before : List MemPlace), W.ShapedOpen C.prog →
      (∀ (j : Nat) t v, fn.params[j]? = some t → args[j]? = some v → Value.okWide C.prog W .any base t v) →
      DataW.Whole enc C.prog fn.params.toList s.vars apart W args.toList ds gs before →
      conds.all (PathCond.test C.prog ⟨fn.params.toList, ds, s.plain.varTypes C.prog, gs⟩) = true →
      (DataW.weightsEach C.prog (fn.params.toList ++ s.plain.varTypes C.prog) (ds ++ gs)).all (· ≤ reachBytes) = true → X W args →
      a.holds C.prog (lone (Frame.enter C.prog f args .normal) [] W) →
      Calls C.prog f args W fun e W' => ∃ v, e = .returned v ∧ s.post enc C.prog fn apart fresh handsOn again W args v W') :
    ReturnsInHanded a C os f .any (fun w args => (s.pre enc C.prog fn conds apart w args ∧ X w args) ∧ sizedMet enc C.prog fn (OpenSpec.ofChange s) apart w args) (s.post enc C.prog fn apart fresh handsOn again) :=
  returnsInHanded_of_calls own started noInit witness fun w tape i _ hshape _ hin ⟨⟨⟨ds, gs, before, hwhole, hcond⟩, hx⟩, hz⟩ hh => by
    obtain ⟨_, _, _, fn', e, _, _, _, _, hv⟩ := hin
    cases hfn.symm.trans e
    refine (walk _ w.heap.size i.args ds gs before hshape hv (DataW.Whole.of_heap (w' := w.forCall tape i) (by rfl) hwhole) hcond (hz.weights hwhole) (hX _ _ _ (by rfl) hx) hh).mono ?_
    rintro e W' ⟨v, rfl, hp⟩
    exact ChangeSpec.post_blind hp
end Go.Proofs.YtcdfjaaipbjpnaaGreatDoor

/- Policies: the law PolicyBack. -/
namespace Go.Proofs.YtcdfjaaipbjpnaaGreatDoor
open Go.Sx
set_option linter.unusedVariables false
set_option linter.unusedSimpArgs false
set_option maxRecDepth 100000

theorem PolOK.z {p : Pol} (h : PolOK p) : PolZ p := ⟨h.sz, fun s hs => Nat.le_trans (h.lev s hs) (by decide), fun c hc => Nat.le_trans (h.ins c hc).1 (by decide), fun c hc => Nat.le_trans (h.outs c hc).1 (by decide)⟩
theorem PolR.z {p : Pol} (h : PolR p) : PolZ p := by
  have ho : orderM p.up = true := by have := h.up; unfold rightM at this; rw [Bool.and_eq_true] at this; exact this.1
  have hl := (order_len ho).2
  have h1 := h.len
  have h2 := h.il
  have h3 := h.ol
  exact ⟨⟨by omega, by omega, by omega, by omega⟩, fun s hs => by have := (gw_name (h.names s hs)).2.1; omega, fun c hc => by have := (gw_name (h.iok c hc).1).2.1; omega, fun c hc => by have := (gw_name (h.ook c hc).1).2.1; omega⟩
theorem parse_no {s : ByteArray} (h : (parseP s).2.2 ≠ 0) : (parseP s).1 = pol0 := by
  revert h
  unfold parseP
  split
  · intro _; rfl
  · split
    · intro _; rfl
    · split
      · intro _; rfl
      · unfold endR
        split
        · intro _; rfl
        · split
          · intro h; exact absurd rfl h
          · intro _; rfl
theorem print_yes {p : Pol} (h : PolR p) : printPol p = (tB (printW p), 0) := by unfold printPol; rw [if_pos ((right_iff p).2 h)]
theorem print_r {p : Pol} (h : (printPol p).2 = 0) : PolR p := by
  refine (right_iff p).1 (Classical.byContradiction fun e => ?_)
  unfold printPol at h
  rw [if_neg e] at h
  cases h
theorem tB_i64 {p : Pol} (h : PolR p) : (tB (printW p)).size ≤ 9223372036854775807 := by
  have := tB_small h (List.append_nil (printW p)); omega
end Go.Proofs.YtcdfjaaipbjpnaaGreatDoor

/- The reference for letters, and the law on letters. -/
namespace Go.Proofs.YtcdfjaaipbjpnaaGreatDoor
open Go.Sx
set_option linter.unusedVariables false
set_option maxRecDepth 100000
theorem ref_digit_spec (r : Int) : Pure PG 77 [vi r] (vb (decide (48 ≤ r) && decide (r ≤ 57))) [] := by
  refine Proc.mk (cfg 9) tysOK [] Tryz.func77 rfl (by kernel_rfl) rfl rfl rfl ?_
  intro C x
  refine x.exit rfl trivial ?_
  exact ⟨.inr rfl, rfl, trivial, rfl⟩

theorem ref_letter_spec (r : Int) : Pure PG 76 [vi r] (vb (decide (97 ≤ r) && decide (r ≤ 122) || decide (65 ≤ r) && decide (r ≤ 90) || decide (r = 95) || decide (945 ≤ r) && decide (r ≤ 969) || decide (913 ≤ r) && decide (r ≤ 937) && !decide (r = 930))) [] := by
  refine Proc.mk (cfg 39) tysOK [] Tryz.func76 rfl (by kernel_rfl) rfl rfl rfl ?_
  intro C x
  refine x.cond rfl trivial (fun h => ?_) (fun h => ?_)
  · refine x.exit rfl trivial ?_
    refine ⟨.inr rfl, ?_, trivial, rfl⟩
    show true = _
    simp only [Bool.or_eq_true, Bool.and_eq_true, decide_eq_true_eq] at h
    symm
    simp only [Bool.or_eq_true, Bool.and_eq_true, decide_eq_true_eq]
    omega
  · refine x.exit rfl trivial ?_
    refine ⟨.inr rfl, ?_, trivial, rfl⟩
    show _ = _
    simp only [h, Bool.false_or]

end Go.Proofs.YtcdfjaaipbjpnaaGreatDoor

/- Is it a name? The reference's answer. -/
namespace Go.Proofs.YtcdfjaaipbjpnaaGreatDoor
open Go.Sx
set_option linter.unusedVariables false
set_option linter.unusedSimpArgs false
set_option maxRecDepth 100000

def refNameW (s : ByteArray) : Nat → Int → Bool
  | 0, _ => true
  | n + 1, i => if i < s.size then
      if (!letB (formV s i).1 && (decide (i = 0) || !digB (formV s i).1)) = true then false else refNameW s n (nextV s i)
    else true
theorem refNameW_end {s : ByteArray} {n : Nat} {i : Int} (h : ¬ i < s.size) : refNameW s n i = true := by
  cases n with
  | zero => rfl
  | succ n => rw [refNameW, if_neg h]
def refNameV (s : ByteArray) : Bool :=
  if (decide ((s.size : Int) = 0) || decide (0 ≤ badV s s.size 0) || decide (24 < runesV s s.size 0 0)) = true then false else refNameW s s.size 0

structure OI (s : ByteArray) where
  n : Nat
  i : Int
  fuel : (s.size : Int) ≤ i + n
  same : refNameW s n i = refNameW s s.size 0
  hi : 0 ≤ i ∧ i ≤ s.size

theorem ref_name_spec (s : ByteArray) (hs : s.size ≤ 9223372036854775807) : Pure PG 47 [vs s] (vb (refNameV s)) [] := by
  refine Proc.mk (cfg 44) tysOK [] Tryz.func47 rfl (by kernel_rfl) rfl rfl rfl ?_
  intro C x
  refine x.pureG rfl trivial rfl (fun _ => bad_spec s hs) rfl ⟨rfl, trivial⟩ ?_
  refine x.pureG rfl trivial rfl (fun _ => runes_spec s hs) rfl ⟨rfl, trivial⟩ ?_
  refine x.cond rfl trivial (fun h0 => ?_) (fun h0 => ?_)
  · refine x.exit rfl trivial ?_
    refine ⟨.inr rfl, ?_, trivial, rfl⟩
    rw [refNameV, if_pos h0]
    exact rfl
  have h0' : refNameV s = refNameW s s.size 0 := by
    rw [refNameV, if_neg (by rw [h0]; simp)]
  refine x.loop (α := OI s) (fun y => ⟨[(0, vs s), (3, vi y.i)], [], 0⟩) (fun y => (s.size + 4 - y.i).toNat) ⟨s.size, 0, by omega, rfl, by omega⟩ rfl trivial ?_ (fun y => ?_)
  · exact ⟨⟨rfl, rfl, trivial⟩, trivial, rfl⟩
  obtain ⟨n, i, fuel, same, hi⟩ := y
  change Go C _ ⟨[(0, vs s), (3, vi i)], [], 0⟩ _
  refine x.cond rfl trivial (fun h => ?_) (fun h => ?_)
  · have h' : i < s.size := by simpa using h
    have hn := nextV_gt s i
    have hr := nextV_room s i (by omega)
    refine x.pure rfl trivial rfl (form_spec s i hs) ⟨rfl, rfl, trivial⟩ ?_
    refine x.pure rfl trivial rfl (ref_letter_spec _) ⟨rfl, trivial⟩ ?_
    refine x.pureG rfl trivial rfl (fun _ _ => ref_digit_spec _) rfl ⟨rfl, trivial⟩ ?_
    cases n with
    | zero => omega
    | succ n =>
      rw [refNameW, if_pos h'] at same
      refine x.cond rfl trivial (fun h2 => ?_) (fun h2 => ?_)
      · rw [if_pos (show (!letB (formV s i).1 && (decide (i = 0) || !digB (formV s i).1)) = true from h2)] at same
        refine x.exit rfl trivial ?_
        refine ⟨.inr rfl, ?_, trivial, rfl⟩
        rw [h0', ← same]
        exact rfl
      · rw [if_neg (by rw [show (!letB (formV s i).1 && (decide (i = 0) || !digB (formV s i).1)) = false from h2]; simp)] at same
        refine x.pure rfl trivial rfl (next_spec s i hs (by omega)) ⟨rfl, rfl, trivial⟩ ?_
        refine x.back rfl trivial ?_
        refine ⟨⟨n, nextV s i, by omega, same, by omega⟩, by show ((s.size : Int) + 4 - nextV s i).toNat < ((s.size : Int) + 4 - i).toNat; omega, ?_⟩
        exact ⟨⟨rfl, rfl, trivial⟩, trivial, rfl⟩
  · have h' : ¬ i < s.size := by simpa using h
    refine x.exit rfl trivial ?_
    refine ⟨.inr rfl, ?_, trivial, rfl⟩
    rw [h0', ← same, refNameW_end h']
    exact rfl
end Go.Proofs.YtcdfjaaipbjpnaaGreatDoor

/- Names: both answer alike; the law. -/
namespace Go.Proofs.YtcdfjaaipbjpnaaGreatDoor
open Go.Sx
set_option linter.unusedVariables false
set_option linter.unusedSimpArgs false
set_option maxRecDepth 100000

theorem runesV_ge (s : ByteArray) : ∀ (n : Nat) (i c : Int), c ≤ runesV s n i c
  | 0, i, c => Int.le_refl c
  | n + 1, i, c => by
    rw [runesV]
    split
    · have := runesV_ge s n (nextV s i) (c + 1); omega
    · exact Int.le_refl c

theorem nameW_eq (s : ByteArray) : ∀ (n p : Nat) (c : Int), s.size ≤ p + n → c ≤ 24 →
    nameW s n p c = (!decide (0 ≤ badV s n p) && decide (runesV s n p c ≤ 24) && refNameW s n p && decide (0 < runesV s n p c)) := by
  intro n
  induction n with
  | zero =>
    intro p c h1 h2
    rw [nameW, badV, runesV, refNameW]
    simp [h2]
  | succ n ih =>
    intro p c h1 h2
    by_cases hp : p < s.size
    · have hp' : (p : Int) < s.size := by omega
      have hf := formV_at hp
      rw [nameW, badV, runesV, refNameW, if_pos hp, if_pos hp', if_pos hp', if_pos hp', nextV_at hp, hf]
      by_cases hb : (Utf8.decode s p).2 = 1 ∧ 128 ≤ bt s p
      · have hr : (Utf8.decode s p).1 = 65533 := by
          rw [decode_eq] at hb ⊢
          exact dec_bad _ _ _ _ _ _ hb.1 hb.2
        rw [if_pos hb, hr]
        simp [letB, digB]
      · obtain ⟨d1, d2, d3⟩ := decode_pos s p
        have hz : ¬ (((Utf8.decode s p).2 : Int) = 0) := by omega
        rw [if_neg hb]
        simp only
        rw [if_neg hz]
        by_cases hc : (!letB (Utf8.decode s p).1 && (decide ((p : Int) = 0) || !digB (Utf8.decode s p).1)) = true
        · rw [if_pos hc, if_pos hc]; simp
        · rw [if_neg hc, if_neg hc]
          by_cases h24 : 24 < c + 1
          · have := runesV_ge s n ((p + (Utf8.decode s p).2 : Nat) : Int) (c + 1)
            rw [if_pos h24, decide_eq_false (p := runesV s n ((p + (Utf8.decode s p).2 : Nat) : Int) (c + 1) ≤ 24) (by omega)]
            simp
          · rw [if_neg h24, ih (p + (Utf8.decode s p).2) (c + 1) (by omega) (by omega)]
            simp
    · rw [nameW_end hp, badV_end (by omega), runesV_end (by omega), refNameW_end (by omega)]
      simp [h2]

theorem name_eq (s : ByteArray) : nameW s s.size 0 0 = refNameV s := by
  rw [nameW_eq s s.size 0 0 (by omega) (by omega), refNameV]
  by_cases h0 : s.size = 0
  · rw [if_pos (by simp [h0]), h0]
    simp [runesV]
  · have h1 : 0 < runesV s s.size 0 0 := by
      obtain ⟨k, hk⟩ : ∃ k, s.size = k + 1 := ⟨s.size - 1, by omega⟩
      rw [hk, runesV, if_pos (by omega)]
      have := runesV_ge s k (nextV s 0) (0 + 1)
      omega
    rw [decide_eq_false (p := ((s.size : Int) = 0)) (by omega), Bool.false_or]
    by_cases h2 : 0 ≤ badV s s.size 0
    · simp [h2]
    · by_cases h3 : 24 < runesV s s.size 0 0
      · rw [if_pos (by simp [h3]), decide_eq_false (p := runesV s s.size ((0 : Nat) : Int) 0 ≤ 24) (by simp; omega)]
        simp
      · rw [if_neg (by simp [h2]; omega)]
        simp [h1, h2]
        omega
end Go.Proofs.YtcdfjaaipbjpnaaGreatDoor

/- Policies: the answer's words, first, Name. -/
namespace Go.Proofs.YtcdfjaaipbjpnaaGreatDoor
open Go.Sx
set_option linter.unusedVariables false
set_option linter.unusedSimpArgs false
set_option maxRecDepth 100000

theorem sbE (s : ByteArray) (i : Nat) (c : UInt8) : sb s i = (c.toNat : Int) ↔ byt s i = c := by
  rw [sb_bt, ← byt_bt, ← UInt8.toNat_inj]; omega
theorem blkE (s : ByteArray) (i : Nat) : (decide (sb s i = 32) || decide (sb s i = 9)) = blkB (byt s i) := by
  unfold blkB
  have e1 : decide (sb s i = 32) = decide (byt s i = 32) := by rw [decide_eq_decide]; exact sbE s i 32
  have e2 : decide (sb s i = 9) = decide (byt s i = 9) := by rw [decide_eq_decide]; exact sbE s i 9
  rw [e1, e2]
theorem toNat_sc (i : Nat) : ((i : Int) + 1).toNat = i + 1 := rfl
structure WS (s : ByteArray) where
  i : Nat
  out : List ByteArray
  one : ByteArray
  hi : i ≤ s.size + 1
  hl : out.length ≤ i
  hz : one.size ≤ i
  same : i ≤ s.size → out.map tl ++ wordsG (tl one) ((tl s).drop i) = wordsG [] (tl s)
  fin : i = s.size + 1 → out.map tl = wordsG [] (tl s)
def outW (out : List ByteArray) (one : ByteArray) : List ByteArray := if 0 < one.size then out ++ [one] else out
theorem out_step {s one : ByteArray} {i : Nat} {out : List ByteArray} (hi : i ≤ s.size) (h : out.map tl ++ wordsG (tl one) ((tl s).drop i) = wordsG [] (tl s)) (hb : i = s.size ∨ blkB (byt s i) = true) :
    (i < s.size → (outW out one).map tl ++ wordsG [] ((tl s).drop (i + 1)) = wordsG [] (tl s)) ∧ (i = s.size → (outW out one).map tl = wordsG [] (tl s)) := by
  have hn := tl_nil one
  constructor
  · intro hlt
    have hbl : blkB (byt s i) = true := hb.elim (fun e => by omega) id
    rw [show (tl s).drop i = byt s i :: (tl s).drop (i + 1) from drop_byt hlt, wordsG, if_pos hbl] at h
    unfold outW
    by_cases h0 : one.size = 0
    · rw [if_pos (hn.2 h0)] at h
      rw [if_neg (by omega)]; exact h
    · rw [if_neg (fun e => h0 (hn.1 e))] at h
      rw [if_pos (by omega), ← h]; simp
  · intro e
    subst e
    rw [show (tl s).drop s.size = [] from List.drop_eq_nil_of_le (by rw [size_l]; exact Nat.le_refl _), wordsG] at h
    unfold outW
    by_cases h0 : one.size = 0
    · rw [if_pos (hn.2 h0)] at h
      rw [if_neg (by omega), ← h]; simp
    · rw [if_neg (fun e => h0 (hn.1 e))] at h
      rw [if_pos (by omega), ← h]; simp

/-! ### where the first word begins -/
theorem lead_le : ∀ l : List UInt8, lead l ≤ l.length
  | [] => Nat.le_refl _
  | b :: r => by
    have := lead_le r
    rw [lead]; split <;> simp <;> omega
theorem rname6_spec (s : ByteArray) (hs : s.size ≤ 9223372036854775807) : Pure PG 23 [vs s] (vb (nameB s)) [] := by
  refine Proc.mk (cfg 10) tysOK [] Tryz.func23 rfl (by kernel_rfl) rfl rfl rfl ?_
  intro C x
  refine x.pure rfl trivial rfl (ref_name_spec s hs) ⟨rfl, trivial⟩ ?_
  refine x.pureG rfl trivial rfl (fun _ => refword_spec s) rfl ⟨rfl, trivial⟩ ?_
  refine x.exit rfl trivial ⟨.inr rfl, ?_, trivial, rfl⟩
  show VEq0 (vb (refNameV s && !wordB s)) (vb (nameB s))
  rw [nameB, name_eq]; exact rfl
end Go.Proofs.YtcdfjaaipbjpnaaGreatDoor

/- Policies: the answer's: which may be, the pairs between which nothing stands. -/
namespace Go.Proofs.YtcdfjaaipbjpnaaGreatDoor
open Go.Sx
set_option linter.unusedVariables false
set_option linter.unusedSimpArgs false
set_option maxRecDepth 100000

theorem dec_nc (a b : Nat) : decide ((a : Int) = (b : Int)) = decide (a = b) := by rw [decide_eq_decide]; omega
theorem rchans_spec (lev : List ByteArray) (l : List Chan) (hlev : inI64 (lev.length : Int)) (hl : inI64 (l.length : Int)) (hz : ∀ c ∈ l, c.1.size ≤ 9223372036854775807) :
    Pure PG 25 [.agg [vSs lev, .dead, .dead, .dead, .dead], vChs l] (vb (chansB lev.length l)) [] := by
  refine Proc.mk (cfg 52) tysOK [] Tryz.func25 rfl (by kernel_rfl) rfl rfl rfl ?_
  intro C x
  have hl0 := hl
  unfold inI64 at hl
  refine x.cond rfl trivial (fun h => ?_) (fun h => ?_)
  · have h : (32 : Int) < l.length := of_decide_eq_true h
    refine x.exit rfl trivial ⟨.inr rfl, ?_, trivial, rfl⟩
    rw [chansB, decide_eq_false (show ¬ l.length ≤ 32 by omega)]; exact rfl
  have h : ¬ (32 : Int) < l.length := of_decide_eq_false h
  have hle : l.length ≤ 32 := by omega
  refine x.loop (α := { i : Nat // i ≤ l.length ∧ allF (chnB lev.length l) (l.length - i) i = allF (chnB lev.length l) l.length 0 }) (fun y => ⟨[(1, vChs l), (2, .ptr 0 0), (5, vi (y.1 : Int))], [(0, .box [vSs lev, .dead, .dead, .dead, .dead])], 1⟩) (fun y => l.length - y.1) ⟨0, by omega, rfl⟩ rfl trivial ⟨⟨veq_d rfl, ⟨rfl, rfl⟩, rfl, trivial⟩, ⟨⟨veq0_d rfl, rfl, rfl, rfl, rfl, trivial⟩, trivial⟩, rfl⟩ (fun y => ?_)
  obtain ⟨i, hi, hsame⟩ := y
  change Go C _ ⟨[(1, vChs l), (2, .ptr 0 0), (5, vi (i : Int))], [(0, .box [vSs lev, .dead, .dead, .dead, .dead])], 1⟩ _
  refine x.cond rfl trivial (fun h1 => ?_) (fun h1 => ?_)
  · have h1 : i < l.length := by have := of_decide_eq_true h1; omega
    have hsz : (l.getD i chan0).1.size ≤ 9223372036854775807 := hz _ (by rw [List.getD_eq_getElem?_getD, List.getElem?_eq_getElem h1]; exact List.getElem_mem h1)
    rw [allF_step h1] at hsame
    refine x.quiet rfl trivial mixedP (by kernel_rfl) ?_
    refine x.qcall rfl (by simp only [AllP]; omega) rfl (rname6_spec (l.getD i chan0).1 hsz) rfl rfl ⟨rfl, trivial⟩ ?_
    refine x.qcallG rfl (by simp only [AllP]; intros; omega) rfl (fun _ => chn6_spec l (l.getD i chan0).1 hl0) rfl rfl ⟨veq_d rfl, rfl, trivial⟩ ?_
    refine x.qdone rfl (by simp only [AllP]; refine ⟨fun _ => by omega, fun _ => by omega⟩) ?_
    refine x.cond rfl trivial (fun h2 => ?_) (fun h2 => ?_)
    · have h2 : (((!nameB (l.getD i chan0).1 || !decide (idxC l (l.getD i chan0).1 = (i : Int))) || decide ((l.getD i chan0).2 < 0)) || decide ((lev.length : Int) ≤ (l.getD i chan0).2)) = true := h2
      have e : chnB lev.length l i = false := by
        rw [← notAny h2]
        unfold chnB
        rw [Bool.not_not, show (!decide ((l.getD i chan0).2 < 0)) = decide (0 ≤ (l.getD i chan0).2) by rw [← decide_not, decide_eq_decide]; omega, show (!decide ((lev.length : Int) ≤ (l.getD i chan0).2)) = decide ((l.getD i chan0).2 < (lev.length : Int)) by rw [← decide_not, decide_eq_decide]; omega]
      refine x.exit rfl trivial ⟨.inr rfl, ?_, trivial, rfl⟩
      rw [e, Bool.false_and] at hsame
      rw [chansB, ← hsame, Bool.and_false]; exact rfl
    · have h2 : (((!nameB (l.getD i chan0).1 || !decide (idxC l (l.getD i chan0).1 = (i : Int))) || decide ((l.getD i chan0).2 < 0)) || decide ((lev.length : Int) ≤ (l.getD i chan0).2)) = false := h2
      simp only [Bool.or_eq_false_iff, Bool.not_eq_false', decide_eq_false_iff_not, decide_eq_true_eq] at h2
      obtain ⟨⟨⟨e1, e2⟩, e3⟩, e4⟩ := h2
      have e : chnB lev.length l i = true := by
        unfold chnB
        rw [e1, decide_eq_true e2, decide_eq_true (show 0 ≤ (l.getD i chan0).2 by omega), decide_eq_true (show (l.getD i chan0).2 < (lev.length : Int) by omega)]; rfl
      rw [e, Bool.true_and] at hsame
      refine x.back rfl ?_ ⟨⟨i + 1, by omega, hsame⟩, by show l.length - (i + 1) < l.length - i; omega, ⟨veq_d rfl, ⟨rfl, rfl⟩, (show VEq0 (vi ((i : Int) + 1)) (vi ((i + 1 : Nat) : Int)) by rw [Int.natCast_add]; rfl), trivial⟩, ⟨⟨veq0_d rfl, rfl, rfl, rfl, rfl, trivial⟩, trivial⟩, rfl⟩
      simp only [AllP, inI64]; omega
  · have h1 : i = l.length := by have := of_decide_eq_false h1; omega
    refine x.exit rfl trivial ⟨.inr rfl, ?_, trivial, rfl⟩
    rw [h1, Nat.sub_self] at hsame
    rw [chansB, ← hsame, decide_eq_true hle]; exact rfl
set_option maxHeartbeats 2000000 in
theorem rright6_spec (p : Pol) (h : PolZ p) : Pure PG 8 [vPol p] (vb (rightP p)) [] := by
  obtain ⟨i1, i2, i3, i4⟩ := polSz_i64 h.toPolSz
  refine Proc.mk (cfg 62) tysOK [] Tryz.func8 rfl (by kernel_rfl) rfl rfl rfl ?_
  intro C x
  refine x.pureG rfl trivial rfl (fun _ => rright_spec p.up i2) rfl ⟨veq_d rfl, trivial⟩ ?_
  rw [right_eq]
  refine x.cond rfl trivial (fun h1 => ?_) (fun h1 => ?_)
  · have h1 : (((!decide ((p.lev.length : Int) = (p.up.length : Int)) || !rightM p.up) || decide (p.depth < 1)) || decide (64 < p.depth)) = true := h1
    refine x.exit rfl trivial ⟨.inr rfl, ?_, trivial, rfl⟩
    rw [dec_nc] at h1
    have e := notAny h1
    rw [Bool.not_not, show (!decide (p.depth < 1)) = decide (1 ≤ p.depth) by rw [← decide_not, decide_eq_decide]; omega, show (!decide (64 < p.depth)) = decide (p.depth ≤ 64) by rw [← decide_not, decide_eq_decide]; omega] at e
    rw [rightP, headB, e]; exact rfl
  have h1 : (((!decide ((p.lev.length : Int) = (p.up.length : Int)) || !rightM p.up) || decide (p.depth < 1)) || decide (64 < p.depth)) = false := h1
  simp only [Bool.or_eq_false_iff, Bool.not_eq_false', decide_eq_false_iff_not, decide_eq_true_eq] at h1
  obtain ⟨⟨⟨e1, e2⟩, e3⟩, e4⟩ := h1
  have eh : headB p = true := by
    unfold headB
    rw [e2, decide_eq_true (show p.lev.length = p.up.length by omega), decide_eq_true (show 1 ≤ p.depth by omega), decide_eq_true (show p.depth ≤ 64 by omega)]; rfl
  have hl := i1
  unfold inI64 at hl
  refine x.loop (α := { i : Nat // i ≤ p.lev.length ∧ allF (levB p.lev) (p.lev.length - i) i = allF (levB p.lev) p.lev.length 0 }) (fun y => ⟨[(1, .ptr 0 0), (3, vi (y.1 : Int))], [(0, polB p)], 1⟩) (fun y => p.lev.length - y.1) ⟨0, by omega, rfl⟩ rfl trivial ⟨⟨⟨rfl, rfl⟩, rfl, trivial⟩, ⟨polB_eq p, trivial⟩, rfl⟩ (fun y => ?_)
  obtain ⟨i, hi, hsame⟩ := y
  change Go C _ ⟨[(1, .ptr 0 0), (3, vi (i : Int))], [(0, polB p)], 1⟩ _
  refine x.cond rfl trivial (fun h1 => ?_) (fun h1 => ?_)
  · have h1 : i < p.lev.length := by have := of_decide_eq_true h1; omega
    have hsz : (p.lev.getD i .empty).size ≤ 9223372036854775807 := h.levZ _ (by rw [List.getD_eq_getElem?_getD, List.getElem?_eq_getElem h1]; exact List.getElem_mem h1)
    rw [allF_step h1] at hsame
    refine x.quiet rfl trivial mixedP (by kernel_rfl) ?_
    refine x.qcall rfl (by simp only [AllP]; omega) rfl (rname6_spec (p.lev.getD i .empty) hsz) rfl rfl ⟨rfl, trivial⟩ ?_
    refine x.qcallG rfl (by simp only [AllP]; intros; omega) rfl (fun _ => lev6_spec p.lev (p.lev.getD i .empty) i1) rfl rfl ⟨⟨veq0_d rfl, rfl, rfl, rfl, rfl, trivial⟩, rfl, trivial⟩ ?_
    refine x.qdone rfl trivial ?_
    refine x.cond rfl trivial (fun h2 => ?_) (fun h2 => ?_)
    · have h2 : (!nameB (p.lev.getD i .empty) || !decide (idxS p.lev (p.lev.getD i .empty) = (i : Int))) = true := h2
      have e : levB p.lev i = false := by
        unfold levB
        rw [← Bool.not_and, Bool.not_eq_true'] at h2
        exact h2
      refine x.exit rfl trivial ⟨.inr rfl, ?_, trivial, rfl⟩
      rw [e, Bool.false_and] at hsame
      rw [rightP, ← hsame, Bool.and_false]; exact rfl
    · have h2 : (!nameB (p.lev.getD i .empty) || !decide (idxS p.lev (p.lev.getD i .empty) = (i : Int))) = false := h2
      have e : levB p.lev i = true := by
        unfold levB
        rw [← Bool.not_and, Bool.not_eq_false'] at h2
        exact h2
      rw [e, Bool.true_and] at hsame
      refine x.back rfl ?_ ⟨⟨i + 1, by omega, hsame⟩, by show p.lev.length - (i + 1) < p.lev.length - i; omega, ⟨⟨rfl, rfl⟩, (show VEq0 (vi ((i : Int) + 1)) (vi ((i + 1 : Nat) : Int)) by rw [Int.natCast_add]; rfl), trivial⟩, ⟨polB_eq p, trivial⟩, rfl⟩
      simp only [AllP, inI64]; omega
  · have h1 : i = p.lev.length := by have := of_decide_eq_false h1; omega
    rw [h1, Nat.sub_self] at hsame
    have e : rightP p = (chansB p.lev.length p.ins && chansB p.lev.length p.outs) := by rw [rightP, ← hsame, eh]; rfl
    refine x.pure rfl trivial rfl (rchans_spec p.lev p.ins i1 i3 h.insZ) ⟨⟨veq0_d rfl, rfl, rfl, rfl, rfl, trivial⟩, veq_d rfl, trivial⟩ ?_
    refine x.pureG rfl trivial rfl (fun _ => rchans_spec p.lev p.outs i1 i4 h.outsZ) rfl ⟨⟨veq0_d rfl, rfl, rfl, rfl, rfl, trivial⟩, veq_d rfl, trivial⟩ ?_
    refine x.exit rfl trivial ⟨.inr rfl, ?_, trivial, rfl⟩
    rw [e]; exact rfl

/-! ### the pairs -/
def covQ (up : List M64) (a b m : Nat) : Bool := ((decide ((m : Int) = (a : Int)) || decide ((m : Int) = (b : Int))) || !bit (upA up a) m) || !bit (upA up m) b
theorem covP_Q (up : List M64) (a b : Nat) : covP up a b = ((!decide ((a : Int) = (b : Int)) && bit (upA up a) b) && allF (covQ up a b) up.length 0) := by
  unfold covP covQ
  simp only [dec_nc]
def rowR2 (up : List M64) (a k : Nat) : List (Nat × Nat) := ((List.range k).filter (covP up a)).map fun b => (a, b)
def preR (up : List M64) (n : Nat) : List (Nat × Nat) := (List.range n).flatMap fun a => rowR2 up a up.length
theorem preR_succ (up : List M64) (n : Nat) : preR up (n + 1) = preR up n ++ rowR2 up n up.length := by unfold preR; rw [List.range_succ, List.flatMap_append]; simp
theorem rowR2_succ (up : List M64) (a k : Nat) : rowR2 up a (k + 1) = if covP up a k then rowR2 up a k ++ [(a, k)] else rowR2 up a k := by
  unfold rowR2
  rw [List.range_succ, List.filter_append, List.map_append]
  cases h : covP up a k <;> simp [h]
theorem rowR2_len (up : List M64) (a k : Nat) : (rowR2 up a k).length ≤ k := by
  unfold rowR2
  rw [List.length_map]
  have := List.length_filter_le (covP up a) (List.range k)
  rwa [List.length_range] at this
theorem preR_len (up : List M64) (h : up.length ≤ 64) : ∀ n, (preR up n).length ≤ n * 64
  | 0 => by simp [preR]
  | n + 1 => by
    rw [preR_succ, List.length_append]
    have := preR_len up h n
    have := rowR2_len up n up.length
    omega
set_option maxHeartbeats 4000000 in
theorem rcovers_spec (up : List M64) (hl : up.length ≤ 64) : Pure PG 16 [vU up] (vPairs (coversR up)) [] := by
  refine Proc.mk (cfg 68) tysOK [] Tryz.func16 rfl (by kernel_rfl) rfl rfl rfl ?_
  intro C x
  refine x.toLoop rfl trivial ?_
  refine Go.own 3 47 2 (fun i => [.int .i64 ((([] : List (Nat × Nat)).getD i (0, 0)).1 : Int), .int .i64 ((([] : List (Nat × Nat)).getD i (0, 0)).2 : Int)]) rfl ?_
  refine x.loop (α := { i : Nat // i ≤ up.length }) (fun y => ⟨[(0, vU up), (3, .own 0), (4, vi (y.1 : Int))], [(0, vecP (preR up y.1))], 1⟩) (fun y => up.length - y.1) ⟨0, by omega⟩ rfl trivial ⟨⟨veq_d rfl, rfl, rfl, trivial⟩, ⟨⟨rfl, rfl, rfl, fun _ h => absurd h (Nat.not_lt_zero _)⟩, trivial⟩, rfl⟩ (fun y => ?_)
  obtain ⟨a, ha⟩ := y
  change Go C _ ⟨[(0, vU up), (3, .own 0), (4, vi (a : Int))], [(0, vecP (preR up a))], 1⟩ _
  refine x.cond rfl trivial (fun h1 => ?_) (fun h1 => ?_)
  rotate_left
  · have h1 : a = up.length := by have := of_decide_eq_false h1; omega
    subst h1
    refine Sx.Go.freeze 0 ?_
    exact x.exit rfl trivial ⟨.inr rfl, veq_d rfl, trivial, rfl⟩
  have h1 : a < up.length := by have := of_decide_eq_true h1; omega
  have hpl := preR_len up hl a
  refine x.loop (α := { b : Nat // b ≤ up.length }) (fun y => ⟨[(0, vU up), (3, .own 0), (4, vi (a : Int)), (5, vi (y.1 : Int))], [(0, vecP (preR up a ++ rowR2 up a y.1))], 1⟩) (fun y => up.length - y.1) ⟨0, by omega⟩ rfl trivial ⟨⟨veq_d rfl, rfl, rfl, rfl, trivial⟩, ⟨vecP_eq (by simp [rowR2]), trivial⟩, rfl⟩ (fun y => ?_)
  obtain ⟨b, hb⟩ := y
  change Go C _ ⟨[(0, vU up), (3, .own 0), (4, vi (a : Int)), (5, vi (b : Int))], [(0, vecP (preR up a ++ rowR2 up a b))], 1⟩ _
  refine x.cond rfl trivial (fun h2 => ?_) (fun h2 => ?_)
  rotate_left
  · have h2 : b = up.length := by have := of_decide_eq_false h2; omega
    subst h2
    refine x.back rfl (by simp only [AllP, inI64]; omega) ⟨⟨a + 1, by omega⟩, by show up.length - (a + 1) < up.length - a; omega, ⟨veq_d rfl, rfl, (show VEq0 (vi ((a : Int) + 1)) (vi ((a + 1 : Nat) : Int)) by rw [Int.natCast_add]; rfl), trivial⟩, ⟨vecP_eq (preR_succ up a).symm, trivial⟩, rfl⟩
  have h2 : b < up.length := by have := of_decide_eq_true h2; omega
  have hrl := rowR2_len up a b
  refine x.pureG rfl trivial rfl (fun _ => above_spec up a b h1 (by omega)) rfl ⟨veq_d rfl, rfl, rfl, trivial⟩ ?_
  refine x.loop (α := JM up (covP up a b) (covQ up a b)) (fun y => ⟨[(0, vU up), (3, .own 0), (4, vi (a : Int)), (5, vi (b : Int)), (6, vb y.is), (7, vi (y.m : Int))], [(0, vecP (preR up a ++ rowR2 up a b))], 1⟩) (fun y => up.length - y.m) ⟨0, !decide ((a : Int) = (b : Int)) && bit (upA up a) b, by omega, (covP_Q up a b).symm⟩ rfl trivial ⟨⟨veq_d rfl, rfl, rfl, rfl, rfl, rfl, trivial⟩, ⟨vecP_eq rfl, trivial⟩, rfl⟩ (fun y => ?_)
  obtain ⟨m, is, hm, hs⟩ := y
  change Go C _ ⟨[(0, vU up), (3, .own 0), (4, vi (a : Int)), (5, vi (b : Int)), (6, vb is), (7, vi (m : Int))], [(0, vecP (preR up a ++ rowR2 up a b))], 1⟩ _
  refine x.cond rfl trivial (fun h3 => ?_) (fun h3 => ?_)
  · have h3 : (decide ((m : Int) < up.length) && is) = true := h3
    simp only [Bool.and_eq_true, decide_eq_true_eq] at h3
    have h4 : m < up.length := by omega
    rw [h3.2, Bool.true_and, allF_step h4] at hs
    refine x.pureG rfl trivial rfl (fun _ => above_spec up a m h1 (by omega)) rfl ⟨veq_d rfl, rfl, rfl, trivial⟩ ?_
    refine x.pureG rfl trivial rfl (fun _ => above_spec up m b h4 (by omega)) rfl ⟨veq_d rfl, rfl, rfl, trivial⟩ ?_
    refine x.back rfl (by simp only [AllP, inI64]; omega) ⟨⟨m + 1, covQ up a b m, by omega, hs⟩, by show up.length - (m + 1) < up.length - m; omega, ⟨veq_d rfl, rfl, rfl, rfl, rfl, (show VEq0 (vi ((m : Int) + 1)) (vi ((m + 1 : Nat) : Int)) by rw [Int.natCast_add]; rfl), trivial⟩, ⟨vecP_eq rfl, trivial⟩, rfl⟩
  have h3 : (decide ((m : Int) < up.length) && is) = false := h3
  have htot : is = covP up a b := by
    rw [← hs]
    cases is with
    | false => rfl
    | true =>
      have : ¬ (m : Int) < up.length := by simpa using h3
      rw [show up.length - m = 0 by omega]; rfl
  refine x.cond rfl trivial (fun h4 => ?_) (fun h4 => ?_)
  · have h4 : is = true := h4
    rw [h4] at htot
    refine x.back rfl ?_ ⟨⟨b + 1, by omega⟩, by show up.length - (b + 1) < up.length - b; omega, ⟨veq_d rfl, rfl, rfl, (show VEq0 (vi ((b : Int) + 1)) (vi ((b + 1 : Nat) : Int)) by rw [Int.natCast_add]; rfl), trivial⟩, ⟨⟨rfl, rfl, ?_, fun r hr => ?_⟩, trivial⟩, rfl⟩
    · simp only [AllP, inI64, big, List.length_append]; omega
    · rw [rowR2_succ, if_pos htot.symm, ← List.append_assoc]; simp only [List.length_append, List.length_cons, List.length_nil]
    · rw [rowR2_succ, if_pos htot.symm, ← List.append_assoc]
      exact app_gen6 (fun t : Nat × Nat => [D.int .i64 (t.1 : Int), D.int .i64 (t.2 : Int)]) 2 (fun _ => rfl) (0, 0) (preR up a ++ rowR2 up a b) (a, b) r hr
  · have h4 : is = false := h4
    rw [h4] at htot
    refine x.back rfl (by simp only [AllP, inI64]; omega) ⟨⟨b + 1, by omega⟩, by show up.length - (b + 1) < up.length - b; omega, ⟨veq_d rfl, rfl, rfl, (show VEq0 (vi ((b : Int) + 1)) (vi ((b + 1 : Nat) : Int)) by rw [Int.natCast_add]; rfl), trivial⟩, ⟨vecP_eq (by rw [rowR2_succ, if_neg (by rw [← htot]; simp)]), trivial⟩, rfl⟩
end Go.Proofs.YtcdfjaaipbjpnaaGreatDoor

/- Policies: what the answer writes. -/
namespace Go.Proofs.YtcdfjaaipbjpnaaGreatDoor
open Go.Sx
set_option linter.unusedVariables false
set_option linter.unusedSimpArgs false
set_option maxRecDepth 100000

/-! ### what is written -/
theorem ba_of_l {a b : ByteArray} (h : tl a = tl b) : a = b := by rw [ba_eq a, ba_eq b, show a.data.toList = b.data.toList from h]
theorem add2_eq (k : List UInt8) (s : ByteArray) : (((wB (k ++ [32]) ++ s) ++ (⟨#[10]⟩ : ByteArray)) : ByteArray) = joinB [wB k, s] spB ++ (⟨#[10]⟩ : ByteArray) := by
  apply ba_of_l
  rw [tl, app_data, app_data, tl, app_data, show (joinB [wB k, s] spB).data.toList = _ from join_l _]
  simp [joinL, wB, tl]
theorem add3_eq (k : List UInt8) (s u : ByteArray) : (((((wB (k ++ [32]) ++ s) ++ (⟨#[32]⟩ : ByteArray)) ++ u) ++ (⟨#[10]⟩ : ByteArray)) : ByteArray) = joinB [wB k, s, u] spB ++ (⟨#[10]⟩ : ByteArray) := by
  apply ba_of_l
  rw [tl, app_data, app_data, app_data, app_data, tl, app_data, show (joinB [wB k, s, u] spB).data.toList = _ from join_l _]
  simp [joinL, wB, tl]
theorem addB_assoc (acc : ByteArray) (k : List UInt8) (s : ByteArray) : ((acc ++ wB (k ++ [32])) ++ s) ++ (⟨#[10]⟩ : ByteArray) = addB acc [wB k, s] := by
  unfold addB
  rw [← add2_eq, ByteArray.append_assoc, ByteArray.append_assoc, ByteArray.append_assoc]
set_option maxHeartbeats 8000000 in
theorem rprint_spec (p : Pol) (hz : PolZ p) : Pure PG 6 [vPol p] (.tup [vs (printPol p).1, vi (printPol p).2]) [] := by
  refine Proc.mk (cfg 127) tysOK [] Tryz.func6 rfl (by kernel_rfl) rfl rfl rfl ?_
  intro C x
  refine x.pure rfl trivial rfl (rright6_spec p hz) ⟨⟨veq0_d rfl, veq0_d rfl, veq0_d rfl, veq0_d rfl, rfl, trivial⟩, trivial⟩ ?_
  refine x.cond rfl trivial (fun h => ?_) (fun h => ?_)
  · have h : (!rightP p) = true := h
    refine x.exit rfl trivial ?_
    unfold printPol
    rw [if_neg (by simpa using h)]
    exact ⟨.inr rfl, ⟨rfl, rfl, trivial⟩, trivial, rfl⟩
  have h : (!rightP p) = false := h
  have hr : rightP p = true := by simpa using h
  have hR := (right_iff p).1 hr
  unfold printPol
  rw [if_pos hr]
  clear h
  have ho : orderM p.up = true := by have := hR.up; unfold rightM at this; rw [Bool.and_eq_true] at this; exact this.1
  have hl64 := (order_len ho).2
  have hlen := hR.len
  have hil := hR.il
  have hol := hR.ol
  have hcf := covers_few hR.up
  refine x.loop (α := { i : Nat // i ≤ p.lev.length }) (fun y => ⟨[(1, .ptr 0 0), (4, vs (tB (levW (p.lev.take y.1)))), (5, vi (y.1 : Int))], [(0, polB p)], 1⟩) (fun y => p.lev.length - y.1) ⟨0, Nat.zero_le _⟩ rfl trivial ⟨⟨⟨rfl, rfl⟩, rfl, rfl, trivial⟩, ⟨polB_eq p, trivial⟩, rfl⟩ (fun y => ?_)
  obtain ⟨i, hi⟩ := y
  change Go C _ ⟨[(1, .ptr 0 0), (4, vs (tB (levW (p.lev.take i)))), (5, vi (i : Int))], [(0, polB p)], 1⟩ _
  refine x.cond rfl trivial (fun h2 => ?_) (fun h2 => ?_)
  · have h2 : i < p.lev.length := by have := of_decide_eq_true h2; omega
    have hsuc : levW (p.lev.take (i + 1)) = levW (p.lev.take i) ++ [[wB wLevel, p.lev.getD i .empty]] := take_map _ h2
    have hsm := add_small hR (W := levW (p.lev.take i)) (ws := [wB wLevel, p.lev.getD i .empty]) (V := levW (p.lev.drop (i + 1)) ++ (flowW p.lev (coversM p.up) ++ (chanW wInput p.lev p.ins ++ (chanW wOutput p.lev p.outs ++ depW p.depth)))) (by
      rw [← hsuc, ← List.append_assoc, show levW (p.lev.take (i + 1)) ++ levW (p.lev.drop (i + 1)) = levW p.lev from take_cut _ (i + 1)]; rfl)
    have zl : (⟨#[108, 101, 118, 101, 108, 32]⟩ : ByteArray).size = 6 := rfl
    have zw : (wB (wLevel ++ [32])).size = 6 := rfl
    have z3 : (⟨#[32]⟩ : ByteArray).size = 1 := rfl
    have e := add2_eq wLevel (p.lev.getD i .empty)
    have z := congrArg ByteArray.size e
    rw [app_size, app_size, app_size] at z
    have z1 : (⟨#[10]⟩ : ByteArray).size = 1 := rfl
    refine x.back rfl ?_ ⟨⟨i + 1, by omega⟩, by show p.lev.length - (i + 1) < p.lev.length - i; omega, ⟨⟨rfl, rfl⟩, ?_, (show VEq0 (vi ((i : Int) + 1)) (vi ((i + 1 : Nat) : Int)) by rw [Int.natCast_add]; rfl), trivial⟩, ⟨polB_eq p, trivial⟩, rfl⟩
    · simp only [AllP, inI64, app_size, Int.toNat_natCast]
      rw [zl, z1]
      omega
    · show VEq0 (vs (tB (levW (p.lev.take i)) ++ ((wB (wLevel ++ [32]) ++ p.lev.getD ((i : Int).toNat) .empty) ++ (⟨#[10]⟩ : ByteArray)))) (vs (tB (levW (p.lev.take (i + 1)))))
      rw [Int.toNat_natCast, e, hsuc, tB_snoc]; exact rfl
  have h2 : i = p.lev.length := by have := of_decide_eq_false h2; omega
  subst h2
  rw [List.take_length]
  refine x.pure rfl trivial rfl (rcovers_spec p.up hl64) ⟨veq_d rfl, trivial⟩ ?_
  rw [← covers_eq (ord_of ho)]
  refine x.loop (α := { i : Nat // i ≤ (coversM p.up).length }) (fun y => ⟨[(1, .ptr 0 0), (4, vs (tB (levW p.lev ++ flowW p.lev ((coversM p.up).take y.1)))), (6, vPairs (coversM p.up)), (7, vi (y.1 : Int))], [(0, polB p)], 1⟩) (fun y => (coversM p.up).length - y.1) ⟨0, Nat.zero_le _⟩ rfl trivial ⟨⟨⟨rfl, rfl⟩, (by rw [List.take_zero, show flowW p.lev [] = [] from rfl, List.append_nil]; exact rfl), veq_d rfl, rfl, trivial⟩, ⟨polB_eq p, trivial⟩, rfl⟩ (fun y => ?_)
  obtain ⟨i, hi⟩ := y
  change Go C _ ⟨[(1, .ptr 0 0), (4, vs (tB (levW p.lev ++ flowW p.lev ((coversM p.up).take i)))), (6, vPairs (coversM p.up)), (7, vi (i : Int))], [(0, polB p)], 1⟩ _
  refine x.cond rfl trivial (fun h2 => ?_) (fun h2 => ?_)
  · have h2 : i < (coversM p.up).length := by have := of_decide_eq_true h2; omega
    obtain ⟨c, hc⟩ : ∃ c, (coversM p.up).getD i (0, 0) = c := ⟨_, rfl⟩
    have hcl : c.1 < p.lev.length ∧ c.2 < p.lev.length := by
      rw [← hlen, ← hc]
      exact covers_lt (ord_of ho) _ (List.mem_of_getElem? (getD_at h2))
    have hsuc : flowW p.lev ((coversM p.up).take (i + 1)) = flowW p.lev ((coversM p.up).take i) ++ [[wB wFlow, p.lev.getD c.1 .empty, p.lev.getD c.2 .empty]] := by rw [← hc]; exact take_map (a0 := (0, 0)) (fun c : Nat × Nat => [wB wFlow, p.lev.getD c.1 .empty, p.lev.getD c.2 .empty]) h2
    have hsm := add_small hR (W := levW p.lev ++ flowW p.lev ((coversM p.up).take i)) (ws := [wB wFlow, p.lev.getD c.1 .empty, p.lev.getD c.2 .empty]) (V := flowW p.lev ((coversM p.up).drop (i + 1)) ++ (chanW wInput p.lev p.ins ++ (chanW wOutput p.lev p.outs ++ depW p.depth))) (by
      rw [List.append_assoc (levW p.lev), ← hsuc, List.append_assoc, ← List.append_assoc (flowW p.lev _), show flowW p.lev ((coversM p.up).take (i + 1)) ++ flowW p.lev ((coversM p.up).drop (i + 1)) = flowW p.lev (coversM p.up) from take_cut _ (i + 1)]; rfl)
    have zl : (⟨#[102, 108, 111, 119, 32]⟩ : ByteArray).size = 5 := rfl
    have zw : (wB (wFlow ++ [32])).size = 5 := rfl
    have z3 : (⟨#[32]⟩ : ByteArray).size = 1 := rfl
    have e := add3_eq wFlow (p.lev.getD c.1 .empty) (p.lev.getD c.2 .empty)
    have z := congrArg ByteArray.size e
    rw [app_size, app_size, app_size, app_size, app_size] at z
    have z1 : (⟨#[10]⟩ : ByteArray).size = 1 := rfl
    refine x.quiet rfl trivial mixedP (by kernel_rfl) ?_
    refine x.qdone rfl ?_ ?_
    · simp only [AllP, inI64, app_size, Int.toNat_natCast, hc]
      rw [zl, z3]
      omega
    rw [show (coversM p.up).getD ((i : Int).toNat) (0, 0) = c by rw [Int.toNat_natCast]; exact hc]
    refine x.back rfl (by simp only [AllP, inI64]; omega) ⟨⟨i + 1, by omega⟩, by show (coversM p.up).length - (i + 1) < (coversM p.up).length - i; omega, ⟨⟨rfl, rfl⟩, ?_, veq_d rfl, (show VEq0 (vi ((i : Int) + 1)) (vi ((i + 1 : Nat) : Int)) by rw [Int.natCast_add]; rfl), trivial⟩, ⟨polB_eq p, trivial⟩, rfl⟩
    conv => whnf
    simp only [Int.toNat_natCast]
    refine Eq.trans (congrArg (fun z => tB (levW p.lev ++ flowW p.lev ((coversM p.up).take i)) ++ z) e) ?_
    rw [hsuc, ← List.append_assoc, tB_snoc]; rfl
  have h2 : i = (coversM p.up).length := by have := of_decide_eq_false h2; omega
  subst h2
  rw [List.take_length]
  refine x.loop (α := { i : Nat // i ≤ p.ins.length }) (fun y => ⟨[(1, .ptr 0 0), (4, vs (tB (levW p.lev ++ flowW p.lev (coversM p.up) ++ chanW wInput p.lev (p.ins.take y.1)))), (8, vi (y.1 : Int))], [(0, polB p)], 1⟩) (fun y => p.ins.length - y.1) ⟨0, Nat.zero_le _⟩ rfl trivial ⟨⟨⟨rfl, rfl⟩, (by rw [List.take_zero, show chanW wInput p.lev [] = [] from rfl, List.append_nil]; exact rfl), rfl, trivial⟩, ⟨polB_eq p, trivial⟩, rfl⟩ (fun y => ?_)
  obtain ⟨i, hi⟩ := y
  change Go C _ ⟨[(1, .ptr 0 0), (4, vs (tB (levW p.lev ++ flowW p.lev (coversM p.up) ++ chanW wInput p.lev (p.ins.take i)))), (8, vi (i : Int))], [(0, polB p)], 1⟩ _
  refine x.cond rfl trivial (fun h2 => ?_) (fun h2 => ?_)
  · have h2 : i < p.ins.length := by have := of_decide_eq_true h2; omega
    obtain ⟨c, hc⟩ : ∃ c, p.ins.getD i chan0 = c := ⟨_, rfl⟩
    have hcl : OKC p.lev c := by rw [← hc]; exact hR.iok _ (List.mem_of_getElem? (getD_at h2))
    obtain ⟨c1, c2, c3⟩ := hcl
    have hsuc : chanW wInput p.lev (p.ins.take (i + 1)) = chanW wInput p.lev (p.ins.take i) ++ [[wB wInput, c.1, p.lev.getD c.2.toNat .empty]] := by rw [← hc]; exact take_map (a0 := chan0) (fun c : Chan => [wB wInput, c.1, p.lev.getD c.2.toNat .empty]) h2
    have hsm := add_small hR (W := levW p.lev ++ flowW p.lev (coversM p.up) ++ chanW wInput p.lev (p.ins.take i)) (ws := [wB wInput, c.1, p.lev.getD c.2.toNat .empty]) (V := chanW wInput p.lev (p.ins.drop (i + 1)) ++ (chanW wOutput p.lev p.outs ++ depW p.depth)) (by
      rw [List.append_assoc (levW p.lev ++ _), ← hsuc, List.append_assoc, ← List.append_assoc (chanW wInput p.lev _), show chanW wInput p.lev (p.ins.take (i + 1)) ++ chanW wInput p.lev (p.ins.drop (i + 1)) = chanW wInput p.lev p.ins from take_cut _ (i + 1), List.append_assoc]; rfl)
    have zl : (⟨#[105, 110, 112, 117, 116, 32]⟩ : ByteArray).size = 6 := rfl
    have zw : (wB (wInput ++ [32])).size = 6 := rfl
    have z3 : (⟨#[32]⟩ : ByteArray).size = 1 := rfl
    have e := add3_eq wInput c.1 (p.lev.getD c.2.toNat .empty)
    have z := congrArg ByteArray.size e
    rw [app_size, app_size, app_size, app_size, app_size] at z
    have z1 : (⟨#[10]⟩ : ByteArray).size = 1 := rfl
    refine x.quiet rfl trivial mixedP (by kernel_rfl) ?_
    refine x.qdone rfl ?_ ?_
    · simp only [AllP, inI64, app_size, Int.toNat_natCast, hc]
      rw [zl, z3]
      omega
    rw [show p.ins.getD ((i : Int).toNat) chan0 = c by rw [Int.toNat_natCast]; exact hc]
    refine x.back rfl (by simp only [AllP, inI64]; omega) ⟨⟨i + 1, by omega⟩, by show p.ins.length - (i + 1) < p.ins.length - i; omega, ⟨⟨rfl, rfl⟩, ?_, (show VEq0 (vi ((i : Int) + 1)) (vi ((i + 1 : Nat) : Int)) by rw [Int.natCast_add]; rfl), trivial⟩, ⟨polB_eq p, trivial⟩, rfl⟩
    conv => whnf
    simp only [Int.toNat_natCast]
    refine Eq.trans (congrArg (fun z => tB (levW p.lev ++ flowW p.lev (coversM p.up) ++ chanW wInput p.lev (p.ins.take i)) ++ z) e) ?_
    rw [hsuc, ← List.append_assoc, tB_snoc]; rfl
  have h2 : i = p.ins.length := by have := of_decide_eq_false h2; omega
  subst h2
  rw [List.take_length]
  refine x.loop (α := { i : Nat // i ≤ p.outs.length }) (fun y => ⟨[(1, .ptr 0 0), (4, vs (tB (levW p.lev ++ flowW p.lev (coversM p.up) ++ chanW wInput p.lev p.ins ++ chanW wOutput p.lev (p.outs.take y.1)))), (9, vi (y.1 : Int))], [(0, polB p)], 1⟩) (fun y => p.outs.length - y.1) ⟨0, Nat.zero_le _⟩ rfl trivial ⟨⟨⟨rfl, rfl⟩, (by rw [List.take_zero, show chanW wOutput p.lev [] = [] from rfl, List.append_nil]; exact rfl), rfl, trivial⟩, ⟨polB_eq p, trivial⟩, rfl⟩ (fun y => ?_)
  obtain ⟨i, hi⟩ := y
  change Go C _ ⟨[(1, .ptr 0 0), (4, vs (tB (levW p.lev ++ flowW p.lev (coversM p.up) ++ chanW wInput p.lev p.ins ++ chanW wOutput p.lev (p.outs.take i)))), (9, vi (i : Int))], [(0, polB p)], 1⟩ _
  refine x.cond rfl trivial (fun h2 => ?_) (fun h2 => ?_)
  · have h2 : i < p.outs.length := by have := of_decide_eq_true h2; omega
    obtain ⟨c, hc⟩ : ∃ c, p.outs.getD i chan0 = c := ⟨_, rfl⟩
    have hcl : OKC p.lev c := by rw [← hc]; exact hR.ook _ (List.mem_of_getElem? (getD_at h2))
    obtain ⟨c1, c2, c3⟩ := hcl
    have hsuc : chanW wOutput p.lev (p.outs.take (i + 1)) = chanW wOutput p.lev (p.outs.take i) ++ [[wB wOutput, c.1, p.lev.getD c.2.toNat .empty]] := by rw [← hc]; exact take_map (a0 := chan0) (fun c : Chan => [wB wOutput, c.1, p.lev.getD c.2.toNat .empty]) h2
    have hsm := add_small hR (W := levW p.lev ++ flowW p.lev (coversM p.up) ++ chanW wInput p.lev p.ins ++ chanW wOutput p.lev (p.outs.take i)) (ws := [wB wOutput, c.1, p.lev.getD c.2.toNat .empty]) (V := chanW wOutput p.lev (p.outs.drop (i + 1)) ++ depW p.depth) (by
      rw [List.append_assoc (levW p.lev ++ _ ++ _), ← hsuc, List.append_assoc, ← List.append_assoc (chanW wOutput p.lev _), show chanW wOutput p.lev (p.outs.take (i + 1)) ++ chanW wOutput p.lev (p.outs.drop (i + 1)) = chanW wOutput p.lev p.outs from take_cut _ (i + 1), List.append_assoc, List.append_assoc]; rfl)
    have zl : (⟨#[111, 117, 116, 112, 117, 116, 32]⟩ : ByteArray).size = 7 := rfl
    have zw : (wB (wOutput ++ [32])).size = 7 := rfl
    have z3 : (⟨#[32]⟩ : ByteArray).size = 1 := rfl
    have e := add3_eq wOutput c.1 (p.lev.getD c.2.toNat .empty)
    have z := congrArg ByteArray.size e
    rw [app_size, app_size, app_size, app_size, app_size] at z
    have z1 : (⟨#[10]⟩ : ByteArray).size = 1 := rfl
    refine x.quiet rfl trivial mixedP (by kernel_rfl) ?_
    refine x.qdone rfl ?_ ?_
    · simp only [AllP, inI64, app_size, Int.toNat_natCast, hc]
      rw [zl, z3]
      omega
    rw [show p.outs.getD ((i : Int).toNat) chan0 = c by rw [Int.toNat_natCast]; exact hc]
    refine x.back rfl (by simp only [AllP, inI64]; omega) ⟨⟨i + 1, by omega⟩, by show p.outs.length - (i + 1) < p.outs.length - i; omega, ⟨⟨rfl, rfl⟩, ?_, (show VEq0 (vi ((i : Int) + 1)) (vi ((i + 1 : Nat) : Int)) by rw [Int.natCast_add]; rfl), trivial⟩, ⟨polB_eq p, trivial⟩, rfl⟩
    conv => whnf
    simp only [Int.toNat_natCast]
    refine Eq.trans (congrArg (fun z => tB (levW p.lev ++ flowW p.lev (coversM p.up) ++ chanW wInput p.lev p.ins ++ chanW wOutput p.lev (p.outs.take i)) ++ z) e) ?_
    rw [hsuc, ← List.append_assoc, tB_snoc]; rfl
  have h2 : i = p.outs.length := by have := of_decide_eq_false h2; omega
  subst h2
  rw [List.take_length]
  have he : (levW p.lev ++ flowW p.lev (coversM p.up) ++ chanW wInput p.lev p.ins ++ chanW wOutput p.lev p.outs) ++ [[wB wDepth, showV p.depth]] = printW p := by
    rw [List.append_assoc, List.append_assoc, List.append_assoc]; rfl
  have hsm := add_small hR (V := []) (by rw [List.append_nil]; exact he)
  have hd := hR.depth
  have zl : (⟨#[100, 101, 112, 116, 104, 32]⟩ : ByteArray).size = 6 := rfl
  have zw : (wB (wDepth ++ [32])).size = 6 := rfl
  have z3 : (⟨#[32]⟩ : ByteArray).size = 1 := rfl
  have e := addB_assoc (tB (levW p.lev ++ flowW p.lev (coversM p.up) ++ chanW wInput p.lev p.ins ++ chanW wOutput p.lev p.outs)) wDepth (showV p.depth)
  rw [← tB_snoc, he] at e
  have z := congrArg ByteArray.size e
  rw [app_size, app_size, app_size] at z
  have z2 := tB_small hR (List.append_nil (printW p))
  have z1 : (⟨#[10]⟩ : ByteArray).size = 1 := rfl
  refine x.pure rfl ?_ rfl (ref_show_spec p.depth (by unfold inI64; omega)) ⟨rfl, trivial⟩ ?_
  · simp only [AllP, inI64, app_size, Int.toNat_natCast]
    omega
  refine x.exit rfl ?_ ?_
  · simp only [AllP, inI64, app_size, Int.toNat_natCast]
    omega
  refine ⟨.inr rfl, ⟨?_, rfl, trivial⟩, trivial, rfl⟩
  show VEq0 (vs (((tB (levW p.lev ++ flowW p.lev (coversM p.up) ++ chanW wInput p.lev p.ins ++ chanW wOutput p.lev p.outs) ++ wB (wDepth ++ [32])) ++ showV p.depth) ++ (⟨#[10]⟩ : ByteArray))) (vs (tB (printW p)))
  rw [e]; exact rfl
end Go.Proofs.YtcdfjaaipbjpnaaGreatDoor

/- Policies: the law PolicyPrints. -/
namespace Go.Proofs.YtcdfjaaipbjpnaaGreatDoor
open Go.Sx
set_option linter.unusedVariables false
set_option linter.unusedSimpArgs false
set_option maxRecDepth 100000

/-! ### the law -/
set_option maxHeartbeats 4000000 in
theorem prints_spec (p : Pol) (hz : PolZ p) : Pure PG 3 [vPol p] (vb true) [] := by
  refine Proc.mk (cfg 37) tysOK [] Tryz.func3 rfl (by kernel_rfl) rfl rfl rfl ?_
  intro C x
  refine x.pure rfl trivial rfl (copy6_spec p hz.toPolSz) ⟨⟨veq0_d rfl, veq0_d rfl, veq0_d rfl, veq0_d rfl, rfl, trivial⟩, trivial⟩ ?_
  refine x.pure rfl trivial rfl (pprint_spec p hz) ⟨⟨veq0_d rfl, veq0_d rfl, veq0_d rfl, veq0_d rfl, rfl, trivial⟩, trivial⟩ ?_
  refine x.pure rfl trivial rfl (rprint_spec p hz) ⟨⟨veq0_d rfl, veq0_d rfl, veq0_d rfl, veq0_d rfl, rfl, trivial⟩, trivial⟩ ?_
  refine x.every2 [] [0, 1, 2, 3, 4, 5, 6, 7, 8, 9, 12] (.fork 10 (.fork 11 (.fork 13 (.fork 14 (.fork 15 (.fork 16 (.fork 17 (.fork 18 (.fork 19 .leaf .no) .no) .no) .no) .no) .no) .no) .no) .no)
    ⟨[(2, vb true)], [], 1⟩ rfl trivial mixedP (by kernel_rfl) Ret.noPanic rfl trivial (fun C2 x2 => ?_) ?_
  · repeat' first
        | exact True.intro
        | refine And.intro ?_ ?_
        | refine x2.pureG rfl trivial rfl (fun _ => copy6_spec p hz.toPolSz) rfl ⟨⟨veq0_d rfl, veq0_d rfl, veq0_d rfl, veq0_d rfl, rfl, trivial⟩, trivial⟩ (x2.back rfl trivial ?_)
        | refine x2.pureG rfl trivial rfl (fun _ => pright_spec p hz) rfl ⟨⟨veq0_d rfl, veq0_d rfl, veq0_d rfl, veq0_d rfl, rfl, trivial⟩, trivial⟩ (x2.back rfl trivial ?_)
        | refine x2.pureG rfl trivial rfl (fun _ => rright6_spec p hz) rfl ⟨⟨veq0_d rfl, veq0_d rfl, veq0_d rfl, veq0_d rfl, rfl, trivial⟩, trivial⟩ (x2.back rfl trivial ?_)
        | refine x2.pureG rfl trivial rfl (fun _ => awake6_spec) rfl trivial (x2.back rfl trivial ?_)
        | refine x2.back rfl trivial ?_
        | exact .inl ⟨⟨(show VEq0 (vb _) (vb true) by simp; exact rfl), trivial⟩, trivial, rfl⟩
  · exact x.exit rfl trivial ⟨.inr rfl, rfl, trivial, rfl⟩
end Go.Proofs.YtcdfjaaipbjpnaaGreatDoor
