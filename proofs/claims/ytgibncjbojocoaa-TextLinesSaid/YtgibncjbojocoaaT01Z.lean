/- Behind whole lines places begin anew: the law. -/
import Derived.Test.YtgibncjbojocoaaT01J
import Derived.Test.YtgibncjbojocoaaT01V
namespace Go.Proofs.Ytgibncjbojocoaa
open Go.Sx
set_option linter.unusedVariables false
set_option linter.unusedSimpArgs false
set_option maxRecDepth 100000

/-- How many of the first k bytes are 10. -/
def cntV (s : ByteArray) : Nat → Nat
  | 0 => 0
  | k + 1 => if bt s k = 10 then cntV s k + 1 else cntV s k
theorem cntV_le (s : ByteArray) (k : Nat) : cntV s k ≤ k := by
  induction k with
  | zero => simp [cntV]
  | succ k ih => unfold cntV; split <;> omega
theorem scan_cnt (s : ByteArray) (k : Nat) : (scanV s k).1 = cntV s k + 1 := by
  induction k with
  | zero => rfl
  | succ k ih => unfold scanV cntV; split <;> (try simp only) <;> omega

theorem bt_get (s : ByteArray) (i : Nat) : bt s i = (s.data.toList.getD i 0).toNat := by
  have := sb_bt s i
  unfold sb at this
  omega
theorem size_list (s : ByteArray) : s.size = s.data.toList.length := (Array.length_toList).symm
theorem app_data (a b : ByteArray) : (a ++ b).data.toList = a.data.toList ++ b.data.toList := by rw [ByteArray.data_append, Array.toList_append]
theorem app_size (a b : ByteArray) : (a ++ b).size = a.size + b.size := by rw [size_list, app_data, List.length_append, ← size_list, ← size_list]
theorem bt_left {a b : ByteArray} {i : Nat} (h : i < a.size) : bt (a ++ b) i = bt a i := by
  rw [size_list] at h
  rw [bt_get, bt_get, app_data, List.getD_eq_getElem?_getD, List.getD_eq_getElem?_getD, List.getElem?_append_left h]
theorem bt_right (a b : ByteArray) (i : Nat) : bt (a ++ b) (a.size + i) = bt b i := by
  rw [bt_get, bt_get, app_data, List.getD_eq_getElem?_getD, List.getD_eq_getElem?_getD, size_list a, List.getElem?_append_right (by omega)]
  congr 3
  omega

theorem dec_shift (sz p k a b c d : Nat) : dec (k + sz) (k + p) a b c d = dec sz p a b c d := by
  unfold dec
  have h1 : (k + p + 1 < k + sz) ↔ (p + 1 < sz) := by omega
  have h2 : (k + p + 2 < k + sz) ↔ (p + 2 < sz) := by omega
  have h3 : (k + p + 3 < k + sz) ↔ (p + 3 < sz) := by omega
  simp only [h1, h2, h3]

theorem form_shift (a b : ByteArray) (i : Int) (h : 0 ≤ i) : formV (a ++ b) (a.size + i) = formV b i := by
  by_cases hi : i < b.size
  · rw [formV_in ⟨by omega, by rw [app_size]; omega⟩, formV_in ⟨h, hi⟩]
    have e : ((a.size : Int) + i).toNat = a.size + i.toNat := by omega
    rw [e, app_size]
    have b1 := bt_right a b (i.toNat + 1)
    have b2 := bt_right a b (i.toNat + 2)
    have b3 := bt_right a b (i.toNat + 3)
    rw [← Nat.add_assoc] at b1 b2 b3
    rw [b1, b2, b3, bt_right, dec_shift]
  · have := app_size a b
    rw [formV_out (by omega), formV_out (by omega)]

theorem next_shift (a b : ByteArray) (i : Int) (h : 0 ≤ i) : nextV (a ++ b) (a.size + i) = a.size + nextV b i := by
  unfold nextV
  rw [form_shift a b i h]
  split <;> omega

theorem col_shift (a b : ByteArray) (e : Int) : ∀ (n : Nat) (i c : Int), 0 ≤ i → colV (a ++ b) (a.size + e) n (a.size + i) c = colV b e n i c
  | 0, i, c, h => rfl
  | n + 1, i, c, h => by
    rw [colV, colV]
    have hn := nextV_gt b i
    rw [next_shift a b i h]
    by_cases hi : i < e
    · rw [if_pos hi, if_pos (by omega), col_shift a b e n _ _ (by omega)]
    · rw [if_neg hi, if_neg (by omega)]

theorem scan_left (a b : ByteArray) : ∀ (k : Nat), k ≤ a.size → scanV (a ++ b) k = scanV a k
  | 0, _ => rfl
  | k + 1, h => by rw [scanV, scanV, bt_left (by omega), scan_left a b k (by omega)]

theorem scan_right (a b : ByteArray) (h : bt (a ++ b) (a.size - 1) = 10) (ha : 0 < a.size) : ∀ (k : Nat), scanV (a ++ b) (a.size + k) = ((scanV a a.size).1 + ((scanV b k).1 - 1), a.size + (scanV b k).2)
  | 0 => by
    rw [Nat.add_zero, scan_left a b _ (Nat.le_refl _)]
    have : scanV a a.size = ((scanV a (a.size - 1)).1 + 1, a.size) := by
      obtain ⟨m, hm⟩ : ∃ m, a.size = m + 1 := ⟨a.size - 1, by omega⟩
      rw [bt_left (by omega)] at h
      rw [hm] at h ⊢
      rw [Nat.add_sub_cancel] at h ⊢
      rw [scanV, if_pos h]
    rw [this]
    simp [scanV]
  | k + 1 => by
    have hb := scanV_le b k
    rw [← Nat.add_assoc, scanV, bt_right, scan_right a b h ha k]
    show _ = ((scanV a a.size).1 + ((scanV b (k + 1)).1 - 1), a.size + (scanV b (k + 1)).2)
    rw [scanV]
    split
    · simp only
      congr 1
      omega
    · rfl

theorem lines_plain (a b : ByteArray) (e : Int) (he : 0 ≤ e ∧ e ≤ b.size) :
    placeV (a ++ ⟨#[10]⟩ ++ b) (a.size + 1 + e) = ((placeV b e).1 + cntV a a.size + 1, (placeV b e).2) := by
  have hsz : (a ++ (⟨#[10]⟩ : ByteArray)).size = a.size + 1 := by rw [app_size]; rfl
  have hsz2 := app_size (a ++ (⟨#[10]⟩ : ByteArray)) b
  rw [place_eq, place_eq, refPlaceV, refPlaceV, if_neg (by omega), if_neg (by omega)]
  have h10 : bt (a ++ (⟨#[10]⟩ : ByteArray) ++ b) ((a ++ (⟨#[10]⟩ : ByteArray)).size - 1) = 10 := by
    rw [bt_left (by omega), hsz, Nat.add_sub_cancel]
    have := bt_right a ⟨#[10]⟩ 0
    rw [Nat.add_zero] at this
    rw [this]
    rfl
  have hk : ((a.size : Int) + 1 + e).toNat = (a ++ (⟨#[10]⟩ : ByteArray)).size + e.toNat := by omega
  have hb := scanV_le b e.toNat
  rw [hk, scan_right _ b h10 (by omega)]
  have h1 : (scanV (a ++ (⟨#[10]⟩ : ByteArray)) (a ++ (⟨#[10]⟩ : ByteArray)).size).1 = cntV a a.size + 2 := by
    rw [hsz, scanV, if_pos (by have := bt_right a ⟨#[10]⟩ 0; rw [Nat.add_zero] at this; rw [this]; rfl), scan_left _ _ _ (Nat.le_refl _), scan_cnt]
  rw [h1]
  have h2 : ((a.size : Int) + 1 + e) = ((a ++ (⟨#[10]⟩ : ByteArray)).size : Int) + e := by rw [hsz]; omega
  have h3 : (((a ++ (⟨#[10]⟩ : ByteArray)).size + (scanV b e.toNat).2 : Nat) : Int) = ((a ++ (⟨#[10]⟩ : ByteArray)).size : Int) + ((scanV b e.toNat).2 : Int) := by omega
  simp only
  rw [h2, h3, col_shift _ b e _ _ _ (by omega), colV_fuel (s := b) (e := e) (a ++ (⟨#[10]⟩ : ByteArray) ++ b).size b.size _ _ (by omega) (by omega)]
  congr 1
  omega

theorem placeV_le (b : ByteArray) (e : Int) (he : 0 ≤ e ∧ e ≤ b.size) : 0 ≤ (placeV b e).1 ∧ (placeV b e).1 ≤ b.size + 1 := by
  have hb := scanV_le b e.toNat
  rw [place_eq, refPlaceV, if_neg (by omega)]
  simp only
  omega

theorem show_seven : showV 7 = ⟨#[55]⟩ := by
  unfold showV sgV
  rw [if_neg (by omega), show Int.natAbs 7 = 7 from rfl, digs_lt (by omega)]
  decide +kernel

theorem lines_spec (a b : ByteArray) (e : Int) (ha : a.size ≤ 9223372036854775807) (hb : b.size ≤ 9223372036854775807) : Pure Try.prog 8 [vs a, vs b, vi e] (vb true) [] := by
  refine Proc.mk (cfg 79) tysOK [] Try.func8 rfl (by kernel_rfl) rfl rfl rfl ?_
  intro C x
  refine x.cond rfl trivial (fun h0 => ?_) (fun h0 => ?_)
  · refine x.pure rfl trivial rfl (show_spec 7 (by unfold inI64; omega)) ⟨rfl, trivial⟩ ?_
    refine x.exit rfl trivial ?_
    refine ⟨.inr rfl, ?_, trivial, rfl⟩
    show _ = _
    rw [show_seven]
    simp
  simp only [Bool.or_eq_false_iff, decide_eq_false_iff_not] at h0
  refine x.pure rfl trivial rfl (place_spec b e (by omega)) ⟨rfl, rfl, trivial⟩ ?_
  refine x.loop (α := { k : Nat // k ≤ a.size }) (fun y => ⟨[(0, vs a), (1, vs b), (2, vi e), (7, vi (placeV b e).1), (8, vi (placeV b e).2), (9, vi (cntV a y.1 : Int)), (10, vi (y.1 : Int))], [], 0⟩) (fun y => a.size - y.1) ⟨0, by omega⟩ rfl trivial ?_ (fun y => ?_)
  · exact ⟨⟨rfl, rfl, rfl, rfl, rfl, rfl, rfl, trivial⟩, trivial, rfl⟩
  obtain ⟨k, hk⟩ := y
  have hc := cntV_le a k
  change Go C _ ⟨[(0, vs a), (1, vs b), (2, vi e), (7, vi (placeV b e).1), (8, vi (placeV b e).2), (9, vi (cntV a k : Int)), (10, vi (k : Int))], [], 0⟩ _
  refine x.cond rfl trivial (fun h1 => ?_) (fun h1 => ?_)
  · have h1' : k < a.size := by simpa using h1
    have hsb : sb a (k : Int).toNat = (bt a k : Int) := by rw [Int.toNat_natCast]; exact sb_bt a k
    refine x.cond rfl (show _ ∧ _ by omega) (fun h2 => ?_) (fun h2 => ?_)
    · simp only [decide_eq_true_eq, hsb] at h2
      refine x.back rfl ?_ ⟨⟨k + 1, by omega⟩, by show a.size - (k + 1) < a.size - k; omega, ⟨rfl, rfl, rfl, rfl, rfl, ?_, rfl, trivial⟩, trivial, rfl⟩
      · simp only [AllP, inI64]; omega
      · show (cntV a k : Int) + 1 = (cntV a (k + 1) : Int)
        rw [cntV, if_pos (by omega)]
        rfl
    · simp only [decide_eq_false_iff_not, hsb] at h2
      refine x.back rfl (show inI64 ((k : Int) + 1) by unfold inI64; omega) ⟨⟨k + 1, by omega⟩, by show a.size - (k + 1) < a.size - k; omega, ⟨rfl, rfl, rfl, rfl, rfl, ?_, rfl, trivial⟩, trivial, rfl⟩
      show (cntV a k : Int) = (cntV a (k + 1) : Int)
      rw [cntV, if_neg (by omega)]
  · have h1' : k = a.size := by have : ¬ (k : Int) < a.size := by simpa using h1
                                omega
    subst h1'
    have hsz : (a ++ (⟨#[10]⟩ : ByteArray)).size = a.size + 1 := by rw [app_size]; rfl
    refine x.pure rfl ?_ rfl (place_spec (a ++ ⟨#[10]⟩ ++ b) (a.size + 1 + e) (by rw [app_size, hsz]; omega)) ⟨rfl, rfl, trivial⟩ ?_
    · simp only [AllP, inI64]
      rw [hsz]
      show (((a.size + 1 : Nat) : Int) ≤ _) ∧ _
      omega
    refine x.pureG rfl ?_ rfl (fun _ => show_spec 7 (by unfold inI64; omega)) rfl ⟨rfl, trivial⟩ ?_
    · have h1 := placeV_le b e (by omega)
      simp only [AllP, inI64]
      omega
    refine x.exit rfl trivial ?_
    refine ⟨.inr rfl, ?_, trivial, rfl⟩
    show _ = _
    rw [show_seven, lines_plain a b e (by omega)]
    simp
end Go.Proofs.Ytgibncjbojocoaa
