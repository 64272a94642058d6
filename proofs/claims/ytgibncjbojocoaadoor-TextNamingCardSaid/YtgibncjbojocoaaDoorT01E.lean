/- Texts as lists of runes: one text behind another. -/
import Derived.Test.YtgibncjbojocoaaDoorT01B
import Derived.Test.YtgibncjbojocoaaDoorT01N
namespace Go.Proofs.YtgibncjbojocoaaDoor
open Go.Sx
set_option linter.unusedVariables false
set_option linter.unusedSimpArgs false
set_option maxRecDepth 100000

/-- The runes from byte p on: where each begins, which it is, how long. -/
def dl (s : ByteArray) : Nat → Nat → List (Nat × Nat × Nat)
  | 0, _ => []
  | n + 1, p => if p < s.size then (p, (Utf8.decode s p).1, (Utf8.decode s p).2) :: dl s n (p + (Utf8.decode s p).2) else []
theorem dl_end {s : ByteArray} {n p : Nat} (h : ¬ p < s.size) : dl s n p = [] := by
  cases n with
  | zero => rfl
  | succ n => rw [dl, if_neg h]
theorem dl_fuel (s : ByteArray) : ∀ (n m p : Nat), s.size ≤ p + n → s.size ≤ p + m → dl s n p = dl s m p
  | 0, m, p, h1, h2 => by rw [dl_end (by omega), dl_end (by omega)]
  | n + 1, 0, p, h1, h2 => by rw [dl_end (by omega), dl_end (by omega)]
  | n + 1, m + 1, p, h1, h2 => by
    have := decode_pos s p
    rw [dl, dl, dl_fuel s n m _ (by omega) (by omega)]

theorem dl_runes (s : ByteArray) : ∀ (n p : Nat) (c : Int), s.size ≤ p + n → runesV s n p c = c + (dl s n p).length
  | 0, p, c, h => by simp [runesV, dl]
  | n + 1, p, c, h => by
    have := decode_pos s p
    rw [runesV, dl]
    by_cases hp : p < s.size
    · rw [if_pos (by omega), if_pos hp, nextV_at hp, dl_runes s n _ _ (by omega)]
      simp
      omega
    · rw [if_neg (by omega), if_neg hp]
      simp

def okR (x : Nat × Nat × Nat) : Bool := !(decide (x.2.1 = 65533) && decide (x.2.2 = 1))
theorem dl_bad (s : ByteArray) : ∀ (n p : Nat), s.size ≤ p + n → (badV s n p < 0 ↔ badV s n p = -1) ∧ (badV s n p = -1 ↔ (dl s n p).all okR = true)
  | 0, p, h => by simp [badV, dl]
  | n + 1, p, h => by
    have := decode_pos s p
    rw [badV, dl]
    by_cases hp : p < s.size
    · have hz := form_zero hp
      rw [if_pos (by omega), if_pos hp]
      by_cases h0 : (formV s (p : Int)).2 = 0
      · rw [if_pos h0]
        have := hz.1 h0
        simp only [List.all_cons, okR, this]
        simp
      · rw [if_neg h0]
        have hgo : (p : Int) + (formV s (p : Int)).2 = ((p + (Utf8.decode s p).2 : Nat) : Int) := by
          rw [formV_at hp] at h0 ⊢
          split
          · rename_i hb; rw [if_pos hb] at h0; exact absurd rfl h0
          · rfl
        have ih := dl_bad s n (p + (Utf8.decode s p).2) (by omega)
        rw [hgo]
        refine ⟨ih.1, ?_⟩
        rw [ih.2, List.all_cons, show okR (p, (Utf8.decode s p).1, (Utf8.decode s p).2) = true from ?_, Bool.true_and]
        simp only [okR, Bool.not_eq_true', Bool.and_eq_false_iff, decide_eq_false_iff_not]
        by_cases e : (Utf8.decode s p).1 = 65533
        · exact .inr fun e2 => h0 (hz.2 ⟨e, e2⟩)
        · exact .inl e
    · rw [if_neg (by omega), if_neg hp]
      simp

theorem dec_more {sz sz' p a b c d b' c' d' : Nat} (h : ¬ ((dec sz p a b c d).1 = 65533 ∧ (dec sz p a b c d).2 = 1)) (hb : p + 1 < sz → b' = b) (hc : p + 2 < sz → c' = c) (hd : p + 3 < sz → d' = d) (hs : sz ≤ sz') : dec sz' p a b' c' d' = dec sz p a b c d := by
  unfold dec at *
  by_cases h1 : a < 128
  · rw [if_pos h1, if_pos h1]
  rw [if_neg h1] at h ⊢
  rw [if_neg h1]
  by_cases h2 : a / 32 = 6 ∧ p + 1 < sz ∧ b / 64 = 2
  · obtain rfl := hb h2.2.1
    rw [if_pos h2, if_pos (by omega)]
  rw [if_neg h2] at h ⊢
  by_cases h3 : a / 16 = 14 ∧ p + 1 < sz ∧ b / 64 = 2 ∧ p + 2 < sz ∧ c / 64 = 2
  · obtain rfl := hb h3.2.1
    obtain rfl := hc h3.2.2.2.1
    rw [if_pos h3, if_neg (by omega), if_pos (by omega)]
  rw [if_neg h3] at h ⊢
  by_cases h4 : a / 8 = 30 ∧ p + 1 < sz ∧ b / 64 = 2 ∧ p + 2 < sz ∧ c / 64 = 2 ∧ p + 3 < sz ∧ d / 64 = 2
  · obtain rfl := hb h4.2.1
    obtain rfl := hc h4.2.2.2.1
    obtain rfl := hd h4.2.2.2.2.2.1
    rw [if_pos h4, if_neg (by omega), if_neg (by omega), if_pos (by omega)]
  rw [if_neg h4] at h
  exact absurd ⟨rfl, rfl⟩ h
theorem dec_room (sz p a b c d : Nat) (h : p < sz) : p + (dec sz p a b c d).2 ≤ sz := by
  unfold dec
  repeat' split
  all_goals (simp only; omega)

theorem size_list (s : ByteArray) : s.size = s.data.toList.length := (Array.length_toList).symm
theorem app_data (a b : ByteArray) : (a ++ b).data.toList = a.data.toList ++ b.data.toList := by rw [ByteArray.data_append, Array.toList_append]
theorem app_size (a b : ByteArray) : (a ++ b).size = a.size + b.size := by rw [size_list, app_data, List.length_append, ← size_list, ← size_list]
theorem bt_left {a b : ByteArray} {i : Nat} (h : i < a.size) : bt (a ++ b) i = bt a i := by
  rw [size_list] at h
  rw [bt_getD, bt_getD, app_data, List.getD_eq_getElem?_getD, List.getD_eq_getElem?_getD, List.getElem?_append_left h]
theorem bt_right (a b : ByteArray) (i : Nat) : bt (a ++ b) (a.size + i) = bt b i := by
  rw [bt_getD, bt_getD, app_data, List.getD_eq_getElem?_getD, List.getD_eq_getElem?_getD, size_list a, List.getElem?_append_right (by omega)]
  congr 3
  omega
theorem dec_shift (sz p k a b c d : Nat) : dec (k + sz) (k + p) a b c d = dec sz p a b c d := by
  unfold dec
  have h1 : (k + p + 1 < k + sz) ↔ (p + 1 < sz) := by omega
  have h2 : (k + p + 2 < k + sz) ↔ (p + 2 < sz) := by omega
  have h3 : (k + p + 3 < k + sz) ↔ (p + 3 < sz) := by omega
  simp only [h1, h2, h3]
theorem decode_right (a b : ByteArray) (p : Nat) : Utf8.decode (a ++ b) (a.size + p) = Utf8.decode b p := by
  have b1 := bt_right a b (p + 1)
  have b2 := bt_right a b (p + 2)
  have b3 := bt_right a b (p + 3)
  rw [← Nat.add_assoc] at b1 b2 b3
  rw [decode_eq, decode_eq, app_size, b1, b2, b3, bt_right, dec_shift]
theorem decode_left {a : ByteArray} (b : ByteArray) {p : Nat} (hp : p < a.size) (h : ¬ ((Utf8.decode a p).1 = 65533 ∧ (Utf8.decode a p).2 = 1)) : Utf8.decode (a ++ b) p = Utf8.decode a p := by
  rw [decode_eq] at h
  rw [decode_eq, decode_eq, app_size, bt_left hp]
  exact dec_more h (fun hh => bt_left hh) (fun hh => bt_left hh) (fun hh => bt_left hh) (Nat.le_add_right _ _)
theorem decode_room {s : ByteArray} {p : Nat} (h : p < s.size) : p + (Utf8.decode s p).2 ≤ s.size := by
  rw [decode_eq]
  exact dec_room _ _ _ _ _ _ h

def shR (k : Nat) (x : Nat × Nat × Nat) : Nat × Nat × Nat := (k + x.1, x.2.1, x.2.2)
theorem dl_right (a b : ByteArray) : ∀ (n p : Nat), dl (a ++ b) n (a.size + p) = (dl b n p).map (shR a.size)
  | 0, p => rfl
  | n + 1, p => by
    rw [dl, dl, decode_right, app_size]
    by_cases h : p < b.size
    · rw [if_pos (by omega), if_pos h, List.map_cons, Nat.add_assoc, dl_right a b n]
      rfl
    · rw [if_neg (by omega), if_neg h]
      rfl
theorem dl_app (a b : ByteArray) : ∀ (n p : Nat), p ≤ a.size → a.size ≤ p + n → (dl a n p).all okR = true → dl (a ++ b) (n + b.size) p = dl a n p ++ (dl b b.size 0).map (shR a.size)
  | 0, p, h1, h2, h3 => by
    obtain rfl : p = a.size := by omega
    have := dl_right a b b.size 0
    rw [Nat.add_zero] at this
    rw [Nat.zero_add, this]
    rfl
  | n + 1, p, h1, h2, h3 => by
    by_cases hp : p < a.size
    · rw [dl, if_pos hp] at h3
      rw [show dl a (n + 1) p = (p, (Utf8.decode a p).1, (Utf8.decode a p).2) :: dl a n (p + (Utf8.decode a p).2) by rw [dl, if_pos hp]]
      simp only [List.all_cons, Bool.and_eq_true] at h3
      have hd := decode_left (a := a) b hp (by
        have := h3.1
        simp only [okR, Bool.not_eq_true', Bool.and_eq_false_iff, decide_eq_false_iff_not] at this
        rintro ⟨e1, e2⟩
        rcases this with h | h
        · exact h e1
        · exact h e2)
      have hr := decode_room hp
      have := decode_pos a p
      rw [show n + 1 + b.size = (n + b.size) + 1 by omega, dl, if_pos (by rw [app_size]; omega), hd, dl_app a b n _ hr (by omega) h3.2]
      rfl
    · obtain rfl : p = a.size := by omega
      have h4 : dl (a ++ b) (n + 1 + b.size) a.size = _ := dl_right a b (n + 1 + b.size) 0
      rw [h4, dl_end (s := a) hp, dl_fuel b (n + 1 + b.size) b.size 0 (by omega) (by omega)]
      rfl

/-- All runes of a text. -/
def rl (s : ByteArray) : List (Nat × Nat × Nat) := dl s s.size 0
theorem rl_app {a : ByteArray} (b : ByteArray) (h : (rl a).all okR = true) : rl (a ++ b) = rl a ++ (rl b).map (shR a.size) := by
  unfold rl at *
  rw [dl_fuel (a ++ b) (a ++ b).size (a.size + b.size) 0 (by omega) (by rw [app_size]; omega)]
  exact dl_app a b a.size 0 (by omega) (by omega) h
theorem bad_rl (s : ByteArray) : (badV s s.size 0 = -1 ↔ (rl s).all okR = true) ∧ (badV s s.size 0 < 0 ↔ (rl s).all okR = true) := by
  have := dl_bad s s.size 0 (by omega)
  exact ⟨this.2, this.1.trans this.2⟩
theorem runes_rl (s : ByteArray) : runesV s s.size 0 0 = (rl s).length := by
  have := dl_runes s s.size 0 0 (by omega)
  rw [Int.zero_add] at this
  exact this

theorem ok_shift (k : Nat) (l : List (Nat × Nat × Nat)) : (l.map (shR k)).all okR = l.all okR := by
  rw [List.all_map]
  rfl

theorem dec_bound (sz p a b c d : Nat) : (dec sz p a b c d).1 < 2097152 ∨ (dec sz p a b c d).1 < 4294967296 := by
  unfold dec
  repeat' split
  all_goals (simp only; omega)

theorem bad_ff : badV ⟨#[255]⟩ (ByteArray.size ⟨#[255]⟩) 0 = 0 := by decide +kernel
theorem runes_q : runesV ⟨#[113]⟩ (ByteArray.size ⟨#[113]⟩) 0 0 = 1 := by decide +kernel

theorem forms_spec (s : ByteArray) (hs : s.size ≤ 9223372036854775807) : Pure PG 3 [vs s] (vb true) [] := by
  refine Proc.mk (cfg 19) tysOK [] Tryd.func3 rfl (by kernel_rfl) rfl rfl rfl ?_
  intro C x
  refine x.pure rfl trivial rfl (badW_spec s hs) ⟨rfl, trivial⟩ ?_
  refine x.pure rfl trivial rfl (bad_spec s hs) ⟨rfl, trivial⟩ ?_
  refine x.pureG rfl trivial rfl (fun _ => runesW_spec s hs) rfl ⟨rfl, trivial⟩ ?_
  refine x.pureG rfl trivial rfl (fun _ => runes_spec s hs) rfl ⟨rfl, trivial⟩ ?_
  refine x.pureG rfl trivial rfl (fun _ => badW_spec ⟨#[255]⟩ (by decide)) rfl ⟨rfl, trivial⟩ ?_
  refine x.exit rfl trivial ?_
  refine ⟨.inr rfl, ?_, trivial, rfl⟩
  show _ = _
  rw [bad_ff]
  simp

theorem joins_spec (a b : ByteArray) (hab : a.size + b.size ≤ 9223372036854775807) : Pure PG 4 [vs a, vs b] (vb true) [] := by
  refine Proc.mk (cfg 36) tysOK [] Tryd.func4 rfl (by kernel_rfl) rfl rfl rfl ?_
  intro C x
  have hsz := app_size a b
  refine x.pure rfl trivial rfl (badW_spec a (by omega)) ⟨rfl, trivial⟩ ?_
  refine x.pureG rfl trivial rfl (fun _ => badW_spec b (by omega)) rfl ⟨rfl, trivial⟩ ?_
  refine x.cond rfl trivial (fun h => ?_) (fun h => ?_)
  · refine x.pure rfl trivial rfl (runesW_spec ⟨#[113]⟩ (by decide)) ⟨rfl, trivial⟩ ?_
    refine x.exit rfl trivial ?_
    refine ⟨.inr rfl, ?_, trivial, rfl⟩
    show _ = _
    rw [runes_q]
    simp
  simp only [Bool.or_eq_false_iff, decide_eq_false_iff_not] at h
  have ha := (bad_rl a).2.1 (by omega)
  have hb := (bad_rl b).2.1 (by omega)
  have hr := rl_app b ha
  have hadd : ((a.size + b.size : Nat) : Int) ≤ 9223372036854775807 := by omega
  refine x.pure rfl hadd rfl (badW_spec (a ++ b) (by omega)) ⟨rfl, trivial⟩ ?_
  refine x.pureG rfl (fun _ => hadd) rfl (fun _ => runesW_spec (a ++ b) (by omega)) rfl ⟨rfl, trivial⟩ ?_
  refine x.pureG rfl trivial rfl (fun _ => runesW_spec a (by omega)) rfl ⟨rfl, trivial⟩ ?_
  refine x.pureG rfl trivial rfl (fun _ => runesW_spec b (by omega)) rfl ⟨rfl, trivial⟩ ?_
  have hle : ∀ s : ByteArray, (rl s).length ≤ s.size := fun s => by
    have : ∀ n p, (dl s n p).length ≤ n := by
      intro n
      induction n with
      | zero => intro p; simp [dl]
      | succ n ih => intro p; rw [dl]; split <;> simp <;> exact ih _
    exact this s.size 0
  have h1 := hle a
  have h2 := hle b
  refine x.pureG rfl ?_ rfl (fun _ => runesW_spec ⟨#[113]⟩ (by decide)) rfl ⟨rfl, trivial⟩ ?_
  · intro _
    show inI64 _
    rw [runes_rl, runes_rl]
    unfold inI64
    omega
  refine x.exit rfl trivial ?_
  refine ⟨.inr rfl, ?_, trivial, rfl⟩
  show _ = _
  rw [runes_q, runes_rl, runes_rl, runes_rl, hr, (bad_rl (a ++ b)).1.2 (by rw [hr, List.all_append, ha, ok_shift, hb]; rfl)]
  simp
end Go.Proofs.YtgibncjbojocoaaDoor
