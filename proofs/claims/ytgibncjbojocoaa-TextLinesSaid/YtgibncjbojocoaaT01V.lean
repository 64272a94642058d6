/- The text of a number. -/
import Derived.Test.YtgibncjbojocoaaT01S
namespace Go.Proofs.Ytgibncjbojocoaa
open Go.Sx
set_option linter.unusedVariables false
set_option linter.unusedSimpArgs false
set_option maxRecDepth 100000

def digs (u : Nat) : List UInt8 := if u < 10 then [UInt8.ofNat (48 + u)] else digs (u / 10) ++ [UInt8.ofNat (48 + u % 10)]
termination_by u
decreasing_by omega
theorem digs_lt {u : Nat} (h : u < 10) : digs u = [UInt8.ofNat (48 + u)] := by rw [digs, if_pos h]
theorem digs_ge {u : Nat} (h : ¬ u < 10) : digs u = digs (u / 10) ++ [UInt8.ofNat (48 + u % 10)] := by rw [digs, if_neg h]

def digs0 (u : Nat) : List UInt8 := if u = 0 then [] else digs u
theorem digs0_app (u : Nat) : digs0 (u / 10) ++ [UInt8.ofNat (48 + u % 10)] = digs u := by
  by_cases h : u < 10
  · rw [digs_lt h, digs0, if_pos (by omega), Nat.mod_eq_of_lt h]; rfl
  · rw [digs_ge h, digs0, if_neg (by omega)]

def sgV (n : Int) : List UInt8 := if n < 0 then [45] else []
def showV (n : Int) : ByteArray := ba (sgV n ++ digs n.natAbs)

theorem digs_len : ∀ (k u : Nat), u < 10 ^ (k + 1) → (digs u).length ≤ k + 1
  | 0, u, h => by rw [digs_lt (by simpa using h)]; simp
  | k + 1, u, h => by
    by_cases hu : u < 10
    · rw [digs_lt hu]; simp
    · rw [digs_ge hu]
      have := digs_len k (u / 10) (by rw [Nat.pow_succ] at h; omega)
      simp; omega

/-- The digits got so far, the last one first. -/
structure SI (u0 : Nat) where
  u : Nat
  l : List Int
  lo : ∀ x ∈ l, 48 ≤ x ∧ x ≤ 57
  same : digs0 u ++ (l.map fun x => UInt8.ofNat x.toNat).reverse = if l = [] then digs0 u0 else digs u0
  first : l = [] → u = u0
  len : l.length ≤ 20 ∧ u < 10 ^ (20 - l.length)

theorem getD_map {α β : Type} (l : List α) (f : α → β) (d : α) (e : β) (i : Nat) (h : i < l.length) : (l.map f).getD i e = f (l.getD i d) := by
  simp [List.getD_eq_getElem?_getD, h]

theorem turn_list (l : List Int) : (List.range l.length).map (fun i => UInt8.ofNat (l.getD (l.length - 1 - i) 0).toNat) = (l.map fun x => UInt8.ofNat x.toNat).reverse := by
  apply List.ext_getElem
  · simp
  · intro i h1 h2
    simp at h1
    have : l.length - 1 - i < l.length := by omega
    simp [this]

theorem show_spec (n : Int) (hn : inI64 n) : Pure Try.prog 18 [vi n] (vs (showV n)) [] := by
  refine Proc.mk ⟨34, 0, false, tys⟩ tysOK [] Try.func18 rfl (by kernel_rfl) rfl rfl rfl ?_
  intro C x
  unfold inI64 at hn
  refine x.ite (α := Unit) (fun _ => ⟨[(3, .d (.int .u64 (n.natAbs : Int))), (4, vs (ba (sgV n)))], [], 0⟩) rfl trivial (fun h => ?_) (fun h => ?_) (fun _ => ?_)
  · refine x.back rfl trivial ⟨(), ⟨?_, ?_, trivial⟩, trivial, rfl⟩
    · show IntKind.u64.wrap (0 - IntKind.u64.wrap n) = n.natAbs
      have : n < 0 := by simpa using h
      rw [IntKind.wrap_u64, IntKind.wrap_u64]
      omega
    · show _ = ba (sgV n)
      rw [sgV, if_pos (by simpa using h)]
      rfl
  · refine x.back rfl trivial ⟨(), ⟨?_, ?_, trivial⟩, trivial, rfl⟩
    · show IntKind.u64.wrap n = n.natAbs
      have : ¬ n < 0 := by simpa using h
      rw [IntKind.wrap_u64]
      omega
    · show _ = ba (sgV n)
      rw [sgV, if_neg (by simpa using h)]
      rfl
  refine x.toLoop rfl trivial ?_
  refine Go.own 5 5 1 (fun _ => []) rfl ?_
  refine x.loop (α := SI n.natAbs) (fun y => ⟨[(3, .d (.int .u64 (y.u : Int))), (4, vs (ba (sgV n))), (5, .own 0)], [(0, .vec 5 1 y.l.length fun i => [.int .u8 (y.l.getD i 0)])], 1⟩) (fun y => 21 - y.l.length)
    ⟨n.natAbs, [], by simp, by simp, fun _ => rfl, by simp, by show n.natAbs < 100000000000000000000; omega⟩ rfl trivial ?_ (fun y => ?_)
  · exact ⟨⟨rfl, rfl, rfl, trivial⟩, ⟨⟨rfl, rfl, rfl, fun i hi => absurd hi (Nat.not_lt_zero _)⟩, trivial⟩, rfl⟩
  obtain ⟨u, l, lo, same, first, len⟩ := y
  change Go C _ ⟨[(3, .d (.int .u64 (u : Int))), (4, vs (ba (sgV n))), (5, .own 0)], [(0, .vec 5 1 l.length fun i => [.int .u8 (l.getD i 0)])], 1⟩ _
  refine x.cond rfl trivial (fun h => ?_) (fun h => ?_)
  · have h' : 0 < u ∨ l = [] := by
      simp only [Bool.or_eq_true, decide_eq_true_eq] at h
      rcases h with h | h
      · exact .inl (by omega)
      · exact .inr (List.length_eq_zero_iff.1 (by omega))
    have hl : l.length ≤ 19 := by
      rcases h' with h' | rfl
      · refine Classical.byContradiction fun hh => ?_
        have : l.length = 20 := by omega
        rw [this] at len
        simp at len
        omega
      · simp
    refine x.back rfl ?_ ?_
    · simp only [AllP, big]; omega
    have hd : IntKind.u8.wrap (IntKind.u64.wrap (48 + (u : Int).tmod 10)) = 48 + ((u % 10 : Nat) : Int) := by
      rw [IntKind.wrap_u64, IntKind.wrap_u8, Int.tmod_eq_emod_of_nonneg (by omega)]
      omega
    have hq : IntKind.u64.wrap ((u : Int).tdiv 10) = ((u / 10 : Nat) : Int) := by
      have h1 : u < 10 ^ 20 := Nat.lt_of_lt_of_le len.2 (Nat.pow_le_pow_right (by omega) (by omega))
      have h2 : u / 10 < 10000000000000000000 := by omega
      rw [Int.tdiv_eq_ediv_of_nonneg (by omega), IntKind.wrap_u64]
      omega
    refine ⟨⟨u / 10, l ++ [48 + ((u % 10 : Nat) : Int)], ?_, ?_, ?_, ?_⟩, ?_, ⟨?_, rfl, rfl, trivial⟩, ⟨⟨rfl, rfl, ?_, ?_⟩, trivial⟩, rfl⟩
    · intro y hy
      rcases List.mem_append.1 hy with hy | hy
      · exact lo y hy
      · rw [List.mem_singleton.1 hy]; omega
    · rw [if_neg (by simp)]
      simp only [List.map_append, List.map_cons, List.map_nil, List.reverse_append, List.reverse_cons, List.reverse_nil, List.nil_append, List.singleton_append]
      rw [show (48 + ((u % 10 : Nat) : Int)).toNat = 48 + u % 10 by omega]
      rw [show digs0 (u / 10) ++ UInt8.ofNat (48 + u % 10) :: (l.map fun x => UInt8.ofNat x.toNat).reverse = (digs0 (u / 10) ++ [UInt8.ofNat (48 + u % 10)]) ++ (l.map fun x => UInt8.ofNat x.toNat).reverse by simp]
      rw [digs0_app]
      rcases h' with h' | rfl
      · by_cases hl0 : l = []
        · rw [hl0, first hl0]; simp
        · rw [if_neg hl0, digs0, if_neg (by omega)] at same
          exact same
      · rw [first rfl]; simp
    · intro h; simp at h
    · refine ⟨by simp; omega, ?_⟩
      have h1 : 20 - l.length = (19 - l.length) + 1 := by omega
      rw [h1, Nat.pow_succ] at len
      rw [List.length_append, List.length_singleton, show 20 - (l.length + 1) = 19 - l.length by omega]
      omega
    · show 21 - (l ++ [_]).length < 21 - l.length
      simp; omega
    · exact hq
    · show l.length + 1 = (l ++ [_]).length
      simp
    · intro i hi
      have := app_list .u8 l (48 + ((u % 10 : Nat) : Int)) i hi
      refine Eq.trans ?_ this
      show app l.length _ (fun _ => [D.int .u8 (IntKind.u8.wrap (IntKind.u64.wrap (48 + (u : Int).tmod 10)))]) i = _
      rw [hd]
  · have h' : u = 0 ∧ l ≠ [] := by
      simp only [Bool.or_eq_false_iff, decide_eq_false_iff_not] at h
      exact ⟨by omega, fun e => h.2 (by rw [e]; rfl)⟩
    obtain ⟨rfl, hne⟩ := h'
    rw [if_neg hne, digs0, if_pos rfl, List.nil_append] at same
    refine x.call [0] rfl trivial rfl (reverse_spec l.length (fun k => l.getD k 0) (by unfold big; omega)) rfl ⟨rfl, trivial⟩ ⟨⟨rfl, rfl, rfl, fun _ _ => rfl⟩, trivial⟩ ?_
    refine x.exit rfl ?_ ?_
    · refine ⟨fun i hi => trivial, ?_⟩
      show (((ba (sgV n)).size + (bytesOf l.length fun k => [D.int .u8 (l.getD (l.length - 1 - k) 0)]).size : Nat) : Int) ≤ 9223372036854775807
      rw [bytesOf_ba, ba_size, ba_size]
      have : (sgV n).length ≤ 1 := by unfold sgV; split <;> simp
      simp only [List.length_map, List.length_range]
      omega
    refine ⟨.inr rfl, ?_, trivial, rfl⟩
    show ba (sgV n) ++ bytesOf l.length (fun k => [D.int .u8 (l.getD (l.length - 1 - k) 0)]) = showV n
    rw [bytesOf_ba, turn_list, same, ba_app]
    rfl

def ten : ByteArray := ⟨#[48, 49, 50, 51, 52, 53, 54, 55, 56, 57]⟩
theorem ten_at (u : Nat) (h : u < 10) : ten.extract u (u + 1) = ba [UInt8.ofNat (48 + u)] := by
  have : ∀ u : Fin 10, ten.extract u.1 (u.1 + 1) = ba [UInt8.ofNat (48 + u.1)] := by decide +kernel
  exact this ⟨u, h⟩

structure HI (u0 : Nat) where
  u : Nat
  l : List UInt8
  same : digs u ++ l = digs u0
  le : u ≤ u0
  len : l.length ≤ 20

theorem ref_show_pos (u0 : Nat) (hn : u0 ≤ 9223372036854775807) : Pure Try.prog 19 [vi (u0 : Int)] (vs (ba (digs u0))) [] := by
  refine Proc.mk (cfg 30) tysOK [] Try.func19 rfl (by kernel_rfl) rfl rfl rfl ?_
  intro C x
  refine x.cond rfl trivial (fun h => ?_) (fun _ => ?_)
  · simp at h <;> omega
  refine x.cond rfl trivial (fun h => ?_) (fun _ => ?_)
  · simp at h <;> omega
  have hlen : ∀ (l : List UInt8) u, digs u ++ l = digs u0 → (digs u).length + l.length ≤ 19 := fun l u h => by
    have := digs_len 18 u0 (by show u0 < 10000000000000000000; omega)
    rw [← h] at this
    simpa using this
  refine x.loop (α := HI u0) (fun y => ⟨[(0, vi (y.u : Int)), (3, vs (ba y.l))], [], 0⟩) (fun y => y.u) ⟨u0, [], by simp, Nat.le_refl _, by simp⟩ rfl trivial ?_ (fun y => ?_)
  · exact ⟨⟨rfl, rfl, trivial⟩, trivial, rfl⟩
  obtain ⟨u, l, same, le, len⟩ := y
  change Go C _ ⟨[(0, vi (u : Int)), (3, vs (ba l))], [], 0⟩ _
  have hl := hlen l u same
  refine x.cond rfl trivial (fun h => ?_) (fun h => ?_)
  · have hu : 10 ≤ u := by have : (10 : Int) ≤ u := by simpa using h
                           omega
    have hm : (u : Int).tmod 10 = ((u % 10 : Nat) : Int) := by rw [Int.tmod_eq_emod_of_nonneg (by omega)]; rfl
    have hd : (u : Int).tdiv 10 = ((u / 10 : Nat) : Int) := by rw [Int.tdiv_eq_ediv_of_nonneg (by omega)]; rfl
    have he : ten.extract ((u : Int).tmod 10).toNat ((u : Int).tmod 10 + 1).toNat = ba [UInt8.ofNat (48 + u % 10)] := by
      rw [hm, show (((u % 10 : Nat) : Int) + 1).toNat = u % 10 + 1 by omega, Int.toNat_natCast]
      exact ten_at _ (by omega)
    refine x.back rfl ?_ ?_
    · have hs : (ten.extract ((u : Int).tmod 10).toNat ((u : Int).tmod 10 + 1).toNat).size = 1 := by rw [he]; rfl
      unfold ten at hs
      simp only [AllP, hs, ba_size, inI64]
      rw [hm, hd]
      refine ⟨by omega, by omega, by omega, ?_, by omega, by omega, by omega⟩
      show _ ∧ _ ∧ _ ≤ (10 : Int)
      omega
    rw [digs_ge (by omega), List.append_assoc] at same
    refine ⟨⟨u / 10, [UInt8.ofNat (48 + u % 10)] ++ l, same, by omega, by simp; omega⟩, by show u / 10 < u; omega, ⟨hd, ?_, trivial⟩, trivial, rfl⟩
    show ten.extract _ _ ++ ba l = ba ([_] ++ l)
    rw [he, ba_app]
  · have hu : u < 10 := by have : ¬ (10 : Int) ≤ u := by simpa using h
                           omega
    have he : ten.extract (u : Int).toNat ((u : Int) + 1).toNat = ba [UInt8.ofNat (48 + u)] := by
      rw [show ((u : Int) + 1).toNat = u + 1 by omega, Int.toNat_natCast]
      exact ten_at _ hu
    refine x.exit rfl ?_ ?_
    · have hs : (ten.extract (u : Int).toNat ((u : Int) + 1).toNat).size = 1 := by rw [he]; rfl
      unfold ten at hs
      simp only [AllP, hs, ba_size, inI64]
      refine ⟨by omega, ?_, by omega⟩
      show _ ∧ _ ∧ _ ≤ (10 : Int)
      omega
    refine ⟨.inr rfl, ?_, trivial, rfl⟩
    show ten.extract _ _ ++ ba l = ba (digs u0)
    rw [he, ba_app, ← same, digs_lt hu]

theorem min_text : (⟨#[45, 57, 50, 50, 51, 51, 55, 50, 48, 51, 54, 56, 53, 52, 55, 55, 53, 56, 48, 56]⟩ : ByteArray) = showV (-9223372036854775808) := by
  unfold showV sgV
  rw [if_pos (by omega), show Int.natAbs (-9223372036854775808) = 9223372036854775808 from rfl]
  repeat rw [digs_ge (by decide)]
  rw [digs_lt (by decide)]
  decide +kernel

theorem ref_show_spec (n : Int) (hn : inI64 n) : Pure Try.prog 19 [vi n] (vs (showV n)) [] := by
  unfold inI64 at hn
  by_cases h0 : 0 ≤ n
  · have := ref_show_pos n.toNat (by omega)
    rw [Int.toNat_of_nonneg h0] at this
    rw [showV, sgV, if_neg (by omega), show n.natAbs = n.toNat by omega]
    exact this
  refine Proc.mk (cfg 30) tysOK [] Try.func19 rfl (by kernel_rfl) rfl rfl rfl ?_
  intro C x
  refine x.cond rfl trivial (fun h => ?_) (fun h => ?_)
  · refine x.exit rfl trivial ?_
    refine ⟨.inr rfl, ?_, trivial, rfl⟩
    have : n = -9223372036854775808 := by simpa using h
    rw [this]
    exact min_text
  have hne : n ≠ -9223372036854775808 := by simpa using h
  refine x.cond rfl trivial (fun _ => ?_) (fun h => ?_)
  · have hp := ref_show_pos n.natAbs (by omega)
    rw [show (n.natAbs : Int) = 0 - n by omega] at hp
    refine x.pure rfl (show inI64 (0 - n) by unfold inI64; omega) rfl hp ⟨rfl, trivial⟩ ?_
    refine x.exit rfl ?_ ?_
    · show ((((⟨#[45]⟩ : ByteArray).size + (ba (digs n.natAbs)).size : Nat) : Int)) ≤ 9223372036854775807
      have := digs_len 18 n.natAbs (by show n.natAbs < 10000000000000000000; omega)
      rw [ba_size]
      show ((1 + (digs n.natAbs).length : Nat) : Int) ≤ _
      omega
    refine ⟨.inr rfl, ?_, trivial, rfl⟩
    show ba [45] ++ ba (digs n.natAbs) = showV n
    rw [ba_app, showV, sgV, if_pos (by omega)]
  · simp at h; omega

theorem shows_spec (n : Int) (hn : inI64 n) : Pure Try.prog 6 [vi n] (vb true) [] := by
  refine Proc.mk (cfg 8) tysOK [] Try.func6 rfl (by kernel_rfl) rfl rfl rfl ?_
  intro C x
  refine x.pure rfl trivial rfl (show_spec n hn) ⟨rfl, trivial⟩ ?_
  refine x.pure rfl trivial rfl (ref_show_spec n hn) ⟨rfl, trivial⟩ ?_
  refine x.exit rfl trivial ?_
  refine ⟨.inr rfl, ?_, trivial, rfl⟩
  show _ = _
  simp
end Go.Proofs.Ytgibncjbojocoaa
