/- Where bytes are no text, and how many runes they have: the program's own. -/
import Derived.Test.YtgibncjbojocoaaDoorT01M
import Derived.Test.YtgibncjbojocoaaDoorShelf
namespace Go.Proofs.YtgibncjbojocoaaDoor
open Go.Sx
set_option linter.unusedVariables false
set_option linter.unusedSimpArgs false
set_option maxRecDepth 100000

theorem tabs_of_env {F : Nat → Prop} {w : World} (h : EnvOK PG.env F w) : Lib.Utf8Tabs 0 1 w := by
  refine ⟨fun c hc => (h _ _ _ (.head _)).2 c hc, fun i hi => ⟨?_, ?_⟩⟩
  · have := (h _ _ _ (.tail _ (.head _))).2 (2 * i) (by omega)
    rw [this, if_pos (by omega), show 2 * i / 2 = i by omega]
  · have := (h _ _ _ (.tail _ (.head _))).2 (2 * i + 1) (by omega)
    rw [this, if_neg (by omega), show (2 * i + 1) / 2 = i by omega]

theorem env_of_tabs {W : World} (h : Lib.Utf8Tabs 0 1 W) : EnvOK PG.env (fun k => k < W.heap.size) W := by
  have lt : ∀ {b j : Nat} {v : Value}, W.cell? ⟨b, j, none⟩ = some v → b < W.heap.size := fun {b j v} hc => by
    refine Classical.byContradiction fun hn => ?_
    have : W.heap[b]? = none := Array.getElem?_eq_none (by omega)
    simp [World.cell?, this] at hc
  intro g n f hm
  rcases List.mem_cons.1 hm with e | hm
  · simp only [Prod.mk.injEq] at e
    obtain ⟨rfl, rfl, rfl⟩ := e
    exact ⟨lt (h.1 0 (by omega)), fun j hj => h.1 j hj⟩
  · rcases List.mem_cons.1 hm with e | hm
    · simp only [Prod.mk.injEq] at e
      obtain ⟨rfl, rfl, rfl⟩ := e
      refine ⟨lt (h.2 0 (by omega)).1, fun j hj => ?_⟩
      obtain ⟨h1, h2⟩ := h.2 (j / 2) (by omega)
      by_cases hj2 : j % 2 = 0
      · have e : 2 * (j / 2) = j := by omega
        dsimp only
        rw [if_pos hj2, ← h1, e]
      · have e : 2 * (j / 2) + 1 = j := by omega
        dsimp only
        rw [if_neg hj2, ← h2, e]
    · cases hm

theorem decodeRune_spec (s : ByteArray) : Pure PG 11 [vs s] (.tup [.d (.int .i32 ((Lib.decodeGo s).1 : Int)), vi ((Lib.decodeGo s).2 : Int)]) [] :=
  Pure.ofLib (vals := [.string s]) (callable_of Tryd.func11 (by kernel_rfl) (by kernel_rfl)) rfl rfl rfl rfl fun w F hE => Tryd.utf8_DecodeRuneInString s w (tabs_of_env hE)

theorem extract_data (s : ByteArray) (p : Nat) : (s.extract p s.size).data.toList = s.data.toList.drop p := by
  rw [ByteArray.data_extract, Array.toList_extract]
  show (s.data.toList.drop p).take (s.size - p) = _
  rw [List.take_of_length_le]
  rw [List.length_drop, show s.data.toList.length = s.size from Array.length_toList]
  omega
theorem extract_size (s : ByteArray) (p : Nat) : (s.extract p s.size).size = s.size - p := by
  rw [show (s.extract p s.size).size = (s.extract p s.size).data.toList.length from (Array.length_toList).symm, extract_data, List.length_drop, Array.length_toList]
  rfl
theorem bt_getD (s : ByteArray) (i : Nat) : bt s i = (s.data.toList.getD i 0).toNat := by
  have := sb_bt s i
  unfold sb at this
  omega
theorem bt_extract (s : ByteArray) (p k : Nat) : bt (s.extract p s.size) k = bt s (p + k) := by
  rw [bt_getD, bt_getD, extract_data, List.getD_eq_getElem?_getD, List.getD_eq_getElem?_getD, List.getElem?_drop]
theorem dec_back (sz p a b c d : Nat) (h : p ≤ sz) : dec (sz - p) 0 a b c d = dec sz p a b c d := by
  unfold dec
  have h1 : (0 + 1 < sz - p) ↔ (p + 1 < sz) := by omega
  have h2 : (0 + 2 < sz - p) ↔ (p + 2 < sz) := by omega
  have h3 : (0 + 3 < sz - p) ↔ (p + 3 < sz) := by omega
  simp only [h1, h2, h3]
theorem decodeGo_at {s : ByteArray} {p : Nat} (h : p < s.size) : Lib.decodeGo (s.extract p s.size) = Utf8.decode s p := by
  unfold Lib.decodeGo
  rw [if_neg (by rw [extract_size]; omega), decode_eq, decode_eq, extract_size, dec_back _ _ _ _ _ _ (by omega)]
  simp only [bt_extract, Nat.zero_add, Nat.add_zero]

theorem dec_bad (sz p a b c d : Nat) (h1 : (dec sz p a b c d).2 = 1) (h2 : 128 ≤ a) : (dec sz p a b c d).1 = 65533 := by
  unfold dec at *
  split
  · omega
  split
  · rw [if_neg (by omega)] at h1
    split
    · rename_i h3 h4 h5; rw [if_pos h4, if_pos h5] at h1; simp at h1
    · rfl
  split
  · rename_i h3 h4 h5
    rw [if_neg h3, if_neg h4, if_pos h5] at h1
    split
    · rename_i h6; rw [if_pos h6] at h1; simp at h1
    · rfl
  split
  · rename_i h3 h4 h5 h6
    rw [if_neg h3, if_neg h4, if_neg h5, if_pos h6] at h1
    split
    · rename_i h7; rw [if_pos h7] at h1; simp at h1
    · rfl
  · rfl
theorem formV_at {s : ByteArray} {p : Nat} (h : p < s.size) : formV s (p : Int) = if (Utf8.decode s p).2 = 1 ∧ 128 ≤ bt s p then (0, 0) else (((Utf8.decode s p).1 : Int), ((Utf8.decode s p).2 : Int)) := by
  unfold formV
  rw [if_pos (by omega), Int.toNat_natCast]
theorem form_zero {s : ByteArray} {p : Nat} (h : p < s.size) : (formV s (p : Int)).2 = 0 ↔ (Utf8.decode s p).1 = 65533 ∧ (Utf8.decode s p).2 = 1 := by
  obtain ⟨d1, d2, d3⟩ := decode_pos s p
  rw [formV_at h]
  constructor
  · intro hz
    split at hz
    · rename_i hb
      refine ⟨?_, hb.1⟩
      rw [decode_eq] at hb ⊢
      exact dec_bad _ _ _ _ _ _ hb.1 hb.2
    · have : ((Utf8.decode s p).2 : Int) = 0 := hz
      omega
  · rintro ⟨h1, h2⟩
    have h128 : 128 ≤ bt s p := Classical.byContradiction fun hlt => by
      rw [decode_eq, dec, if_pos (by omega)] at h1
      have h1' : bt s p = 65533 := h1
      omega
    rw [if_pos ⟨h2, h128⟩]

structure BW (s : ByteArray) where
  n : Nat
  p : Nat
  fuel : s.size ≤ p + n
  same : badV s n p = badV s s.size 0
  hp : p ≤ s.size + 4

theorem badW_spec (s : ByteArray) (hs : s.size ≤ 9223372036854775807) : Pure PG 6 [vs s] (vi (badV s s.size 0)) [] := by
  refine Proc.mk (cfg 25) tysOK [] Tryd.func6 rfl (by kernel_rfl) rfl rfl rfl ?_
  intro C x
  refine x.loop (α := BW s) (fun y => ⟨[(0, vs s), (8, .ptr 0 0)], [(0, .iter s y.p)], 1⟩) (fun y => s.size + 4 - y.p) ⟨s.size, 0, by omega, rfl, by omega⟩ rfl trivial ?_ (fun y => ?_)
  · exact ⟨⟨rfl, ⟨rfl, rfl⟩, trivial⟩, ⟨⟨rfl, rfl⟩, trivial⟩, rfl⟩
  obtain ⟨n, p, fuel, same, hp⟩ := y
  change Go C _ ⟨[(0, vs s), (8, .ptr 0 0)], [(0, .iter s p)], 1⟩ _
  obtain ⟨d1, d2, d3⟩ := decode_pos s p
  refine x.next rfl trivial rfl rfl rfl (fun h => ?_) (fun h => ?_)
  · have h : p < s.size := h
    refine x.cond rfl trivial (fun _ => ?_) (fun h1 => by cases h1)
    cases n with
    | zero => omega
    | succ n =>
      have hz := form_zero h
      rw [badV, if_pos (by omega)] at same
      have hgo : ¬ (formV s (p : Int)).2 = 0 → (p : Int) + (formV s (p : Int)).2 = ((p + (Utf8.decode s p).2 : Nat) : Int) := fun hne => by
        rw [formV_at h] at hne ⊢
        split
        · rename_i hb; rw [if_pos hb] at hne; exact absurd rfl hne
        · rfl
      have next : ¬ (formV s (p : Int)).2 = 0 → ∃ y : BW s, y.p = p + (Utf8.decode s p).2 := fun hne => by
        rw [if_neg hne, hgo hne] at same
        exact ⟨⟨n, p + (Utf8.decode s p).2, by omega, same, by omega⟩, rfl⟩
      refine x.cond rfl trivial (fun h2 => ?_) (fun h2 => ?_)
      · have h2' : (Utf8.decode s p).1 = 65533 := by
          simp only [decide_eq_true_eq] at h2
          omega
        refine x.pure rfl ?_ rfl (decodeRune_spec (s.extract p s.size)) ⟨?_, trivial⟩ ?_
        · simp only [AllP]; omega
        · show s.extract (p : Int).toNat (s.size : Int).toNat = s.extract p s.size
          rw [Int.toNat_natCast, Int.toNat_natCast]
        rw [decodeGo_at h]
        refine x.cond rfl trivial (fun h3 => ?_) (fun h3 => ?_)
        · have h3' : (Utf8.decode s p).2 = 1 := by
            simp only [decide_eq_true_eq] at h3
            omega
          rw [if_pos (hz.2 ⟨h2', h3'⟩)] at same
          refine x.exit rfl trivial ?_
          refine ⟨.inr rfl, ?_, trivial, rfl⟩
          rw [← same]
          exact rfl
        · have h3' : ¬ (Utf8.decode s p).2 = 1 := by
            simp only [decide_eq_false_iff_not] at h3
            omega
          obtain ⟨y, hy⟩ := next (fun e => h3' (hz.1 e).2)
          refine x.back rfl trivial ⟨y, by show s.size + 4 - y.p < s.size + 4 - p; rw [hy]; omega, ⟨rfl, ⟨rfl, rfl⟩, trivial⟩, ⟨⟨rfl, hy.symm⟩, trivial⟩, rfl⟩
      · have h2' : ¬ (Utf8.decode s p).1 = 65533 := by
          simp only [decide_eq_false_iff_not] at h2
          omega
        obtain ⟨y, hy⟩ := next (fun e => h2' (hz.1 e).1)
        refine x.back rfl trivial ⟨y, by show s.size + 4 - y.p < s.size + 4 - p; rw [hy]; omega, ⟨rfl, ⟨rfl, rfl⟩, trivial⟩, ⟨⟨rfl, hy.symm⟩, trivial⟩, rfl⟩
  · have h : ¬ p < s.size := h
    refine x.cond rfl trivial (fun h1 => by cases h1) (fun _ => ?_)
    refine x.exit rfl trivial ?_
    refine ⟨.inr rfl, ?_, trivial, rfl⟩
    rw [← same, badV_end (by omega)]
    exact rfl

structure RW (s : ByteArray) where
  n : Nat
  p : Nat
  c : Int
  fuel : s.size ≤ p + n
  same : runesV s n p c = runesV s s.size 0 0
  hp : p ≤ s.size + 4
  hc : 0 ≤ c ∧ c ≤ p

theorem nextV_at {s : ByteArray} {p : Nat} (h : p < s.size) : nextV s (p : Int) = ((p + (Utf8.decode s p).2 : Nat) : Int) := by
  have hd := decode_pos s p
  unfold nextV
  rw [formV_at h]
  by_cases h1 : (Utf8.decode s p).2 = 1 ∧ 128 ≤ bt s p
  · rw [if_pos h1, if_pos rfl, h1.1]; rfl
  · rw [if_neg h1, if_neg (by show ¬ ((Utf8.decode s p).2 : Int) = 0; omega)]; rfl

theorem runesW_spec (s : ByteArray) (hs : s.size ≤ 9223372036854775807) : Pure PG 8 [vs s] (vi (runesV s s.size 0 0)) [] := by
  refine Proc.mk (cfg 11) tysOK [] Tryd.func8 rfl (by kernel_rfl) rfl rfl rfl ?_
  intro C x
  refine x.loop (α := RW s) (fun y => ⟨[(0, vs s), (3, vi y.c), (5, .ptr 0 0)], [(0, .iter s y.p)], 1⟩) (fun y => s.size + 4 - y.p) ⟨s.size, 0, 0, by omega, rfl, by omega, by omega⟩ rfl trivial ?_ (fun y => ?_)
  · exact ⟨⟨rfl, rfl, ⟨rfl, rfl⟩, trivial⟩, ⟨⟨rfl, rfl⟩, trivial⟩, rfl⟩
  obtain ⟨n, p, c, fuel, same, hp, hc⟩ := y
  change Go C _ ⟨[(0, vs s), (3, vi c), (5, .ptr 0 0)], [(0, .iter s p)], 1⟩ _
  obtain ⟨d1, d2, d3⟩ := decode_pos s p
  refine x.next rfl trivial rfl rfl rfl (fun h => ?_) (fun h => ?_)
  · have h : p < s.size := h
    refine x.cond rfl trivial (fun _ => ?_) (fun h1 => by cases h1)
    cases n with
    | zero => omega
    | succ n =>
      rw [runesV, if_pos (by omega), nextV_at h] at same
      refine x.back rfl (show inI64 (c + 1) by unfold inI64; omega) ⟨⟨n, p + (Utf8.decode s p).2, c + 1, by omega, same, by omega, by omega⟩, by show s.size + 4 - (p + (Utf8.decode s p).2) < s.size + 4 - p; omega, ⟨rfl, rfl, ⟨rfl, rfl⟩, trivial⟩, ⟨⟨rfl, rfl⟩, trivial⟩, rfl⟩
  · have h : ¬ p < s.size := h
    refine x.cond rfl trivial (fun h1 => by cases h1) (fun _ => ?_)
    refine x.exit rfl trivial ?_
    refine ⟨.inr rfl, ?_, trivial, rfl⟩
    rw [← same, runesV_end (by omega)]
    exact rfl
end Go.Proofs.YtgibncjbojocoaaDoor
