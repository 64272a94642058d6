/- A name with one sign more: the law. -/
import Derived.Test.YtgibncjbojocoaaDoorT01E
namespace Go.Proofs.YtgibncjbojocoaaDoor
open Go.Sx
set_option linter.unusedVariables false
set_option linter.unusedSimpArgs false
set_option maxRecDepth 100000

/-- May this rune stand there in a name? -/
def goodR (x : Nat × Nat × Nat) : Bool := !(!letB (x.2.1 : Int) && (decide ((x.1 : Int) = 0) || !digB (x.2.1 : Int)))

theorem dl_name (s : ByteArray) : ∀ (n p : Nat) (c : Int), s.size ≤ p + n → c ≤ 24 → nameW s n p c = ((dl s n p).all goodR && decide (c + (dl s n p).length ≤ 24) && decide (0 < c + (dl s n p).length))
  | 0, p, c, h, hc => by simp [nameW, dl, hc]
  | n + 1, p, c, h, hc => by
    have := decode_pos s p
    rw [nameW, dl]
    by_cases hp : p < s.size
    · rw [if_pos hp, if_pos hp]
      by_cases hg : (!letB (Utf8.decode s p).1 && (decide ((p : Int) = 0) || !digB (Utf8.decode s p).1)) = true
      · rw [if_pos hg, List.all_cons, show goodR (p, (Utf8.decode s p).1, (Utf8.decode s p).2) = false by unfold goodR; simp only; rw [hg]; rfl]
        simp
      · rw [if_neg hg, List.all_cons, show goodR (p, (Utf8.decode s p).1, (Utf8.decode s p).2) = true by unfold goodR; simp only; rw [Bool.not_eq_true] at hg; rw [hg]; rfl]
        have e : (c + ((dl s n (p + (Utf8.decode s p).2)).length + 1 : Nat) : Int) = c + 1 + (dl s n (p + (Utf8.decode s p).2)).length := by omega
        rw [List.length_cons, e, Bool.true_and]
        by_cases h24 : 24 < c + 1
        · rw [if_pos h24, decide_eq_false (p := c + 1 + ((dl s n (p + (Utf8.decode s p).2)).length : Int) ≤ 24) (by omega)]
          simp
        · rw [if_neg h24, dl_name s n _ _ (by omega) (by omega)]
    · rw [if_neg hp, if_neg hp]
      simp [hc]

theorem name_rl (s : ByteArray) : nameW s s.size 0 0 = ((rl s).all goodR && decide ((rl s).length ≤ 24) && decide (0 < (rl s).length)) := by
  rw [dl_name s s.size 0 0 (by omega) (by omega)]
  show ((rl s).all goodR && decide ((0 : Int) + (rl s).length ≤ 24) && decide ((0 : Int) < 0 + (rl s).length)) = _
  rw [show decide ((0 : Int) + (rl s).length ≤ 24) = decide ((rl s).length ≤ 24) from decide_eq_decide.2 (by omega), show decide ((0 : Int) < 0 + (rl s).length) = decide (0 < (rl s).length) from decide_eq_decide.2 (by omega)]

theorem good_ok {l : List (Nat × Nat × Nat)} (h : l.all goodR = true) : l.all okR = true := by
  rw [List.all_eq_true] at h ⊢
  intro x hx
  have := h x hx
  unfold okR
  by_cases e : x.2.1 = 65533
  · unfold goodR letB digB at this
    rw [e] at this
    simp at this
  · simp [e]

theorem rl_one (c : UInt8) (hc : c.toNat < 128) : rl ⟨#[c]⟩ = [(0, c.toNat, 1)] := by
  unfold rl
  have hb : bt ⟨#[c]⟩ 0 = c.toNat := rfl
  have hd : Utf8.decode ⟨#[c]⟩ 0 = (c.toNat, 1) := by rw [decode_eq, hb, dec, if_pos hc]
  show dl ⟨#[c]⟩ 1 0 = _
  rw [dl, if_pos (show 0 < ByteArray.size ⟨#[c]⟩ from Nat.zero_lt_one), hd]
  rfl

theorem sz1 (s : ByteArray) (c : UInt8) : (s ++ (⟨#[c]⟩ : ByteArray)).size = s.size + 1 := by rw [app_size]; rfl
theorem sz1' (s : ByteArray) (c : UInt8) : ((⟨#[c]⟩ : ByteArray) ++ s).size = 1 + s.size := by rw [app_size]; rfl

theorem name_more (s : ByteArray) (c : UInt8) (hc : c.toNat < 128) (h : nameW s s.size 0 0 = true) :
    nameW (s ++ ⟨#[c]⟩) (s ++ (⟨#[c]⟩ : ByteArray)).size 0 0 = (goodR (s.size, c.toNat, 1) && !decide ((rl s).length = 24)) := by
  rw [name_rl] at h ⊢
  simp only [Bool.and_eq_true, decide_eq_true_eq] at h
  rw [rl_app _ (good_ok h.1.1), rl_one c hc, List.all_append, h.1.1, List.length_append]
  simp only [List.map_cons, List.map_nil, List.all_cons, List.all_nil, List.length_cons, List.length_nil, Bool.true_and, Bool.and_true, shR, Nat.add_zero]
  rw [decide_eq_true (p := 0 < (rl s).length + (0 + 1)) (by omega), Bool.and_true]
  congr 1
  by_cases e : (rl s).length = 24
  · rw [decide_eq_true e, decide_eq_false (by omega)]; rfl
  · rw [decide_eq_false e, decide_eq_true (by omega)]; rfl

theorem name_seven (s : ByteArray) : nameW (⟨#[55]⟩ ++ s) ((⟨#[55]⟩ : ByteArray) ++ s).size 0 0 = false := by
  have h1 := rl_one 55 (by decide)
  rw [name_rl, rl_app s (a := ⟨#[55]⟩) (by rw [h1]; rfl), h1, List.all_append]
  rw [show [((0 : Nat), (55 : UInt8).toNat, (1 : Nat))].all goodR = false by decide +kernel]
  rfl

theorem naming_spec (s : ByteArray) (hs : s.size ≤ 140737488355328) : Pure PG 5 [vs s] (vb true) [] := by
  refine Proc.mk (cfg 42) tysOK [] Tryd.func5 rfl (by kernel_rfl) rfl rfl rfl ?_
  intro C x
  have hq : nameW ⟨#[113]⟩ (ByteArray.size ⟨#[113]⟩) 0 0 = true := by decide +kernel
  refine x.pure rfl trivial rfl (name_spec s (by omega)) ⟨rfl, trivial⟩ ?_
  refine x.cond rfl trivial (fun h => ?_) (fun h => ?_)
  · refine x.pure rfl trivial rfl (name_spec (⟨#[113]⟩ : ByteArray) (by decide)) ⟨rfl, trivial⟩ ?_
    refine x.exit rfl trivial ?_
    refine ⟨.inr rfl, ?_, trivial, rfl⟩
    show _ = _
    exact hq
  have hn : nameW s s.size 0 0 = true := by simpa using h
  have hg : (rl s).all goodR = true := by rw [name_rl] at hn; simp only [Bool.and_eq_true] at hn; exact hn.1.1
  have hpos : 0 < s.size := by
    rw [name_rl] at hn
    simp only [Bool.and_eq_true, decide_eq_true_eq] at hn
    refine Classical.byContradiction fun h0 => ?_
    have : s.size = 0 := by omega
    have e : rl s = [] := by unfold rl; rw [this]; rfl
    rw [e] at hn
    simp at hn
  refine x.pure rfl trivial rfl (runesW_spec s (by omega)) ⟨rfl, trivial⟩ ?_
  have a1 : ((s.size + (ByteArray.size ⟨#[55]⟩) : Nat) : Int) ≤ 9223372036854775807 := by show ((s.size + 1 : Nat) : Int) ≤ _; omega
  have a2 : (((ByteArray.size ⟨#[55]⟩) + s.size : Nat) : Int) ≤ 9223372036854775807 := by show ((1 + s.size : Nat) : Int) ≤ _; omega
  refine x.pure rfl a1 rfl (name_spec (s ++ (⟨#[55]⟩ : ByteArray)) (by rw [sz1]; omega)) ⟨rfl, trivial⟩ ?_
  refine x.pureG rfl (fun _ => a1) rfl (fun _ => name_spec (s ++ (⟨#[113]⟩ : ByteArray)) (by rw [sz1]; omega)) rfl ⟨rfl, trivial⟩ ?_
  refine x.pureG rfl (fun _ => a2) rfl (fun _ => name_spec ((⟨#[55]⟩ : ByteArray) ++ s) (by rw [sz1']; omega)) rfl ⟨rfl, trivial⟩ ?_
  refine x.pureG rfl (fun _ => a1) rfl (fun _ => name_spec (s ++ (⟨#[32]⟩ : ByteArray)) (by rw [sz1]; omega)) rfl ⟨rfl, trivial⟩ ?_
  refine x.pureG rfl trivial rfl (fun _ => badW_spec s (by omega)) rfl ⟨rfl, trivial⟩ ?_
  refine x.exit rfl trivial ?_
  refine ⟨.inr rfl, ?_, trivial, rfl⟩
  show _ = _
  have g1 : goodR (s.size, (55 : UInt8).toNat, 1) = true := by
    unfold goodR
    simp only
    rw [decide_eq_false (p := ((s.size : Int) = 0)) (by omega)]
    decide +kernel
  have g2 : goodR (s.size, (113 : UInt8).toNat, 1) = true := by
    unfold goodR
    simp only
    rw [decide_eq_false (p := ((s.size : Int) = 0)) (by omega)]
    decide +kernel
  have g3 : goodR (s.size, (32 : UInt8).toNat, 1) = false := by
    unfold goodR
    simp only
    rw [decide_eq_false (p := ((s.size : Int) = 0)) (by omega)]
    decide +kernel
  have hr : decide (((rl s).length : Int) = 24) = decide ((rl s).length = 24) := decide_eq_decide.2 (by omega)
  rw [name_more s 55 (by decide) hn, name_more s 113 (by decide) hn, name_more s 32 (by decide) hn, name_seven, g1, g2, g3, runes_rl, (bad_rl s).1.2 (good_ok hg), hr]
  simp
end Go.Proofs.YtgibncjbojocoaaDoor
