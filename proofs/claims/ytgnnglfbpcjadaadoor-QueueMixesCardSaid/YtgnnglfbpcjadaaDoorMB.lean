/- Texts put together: T02B, T05A, T05B, T01VA, T01W, T06B, T06C, T06D, T06E, T06F, T06G, T06H, T06K, T15F, T06N. -/
import Derived.Test.YtgnnglfbpcjadaaDoorMA
import Derived.RangeFuncNested
import Derived.OwnWalkIn
import Derived.TacticsInMore
import Derived.LoopNIn
import Derived.LoopIn
import Derived.Test.YtgnnglfbpcjadaaDoorSxE
import Derived.Shelf.Strings.FieldsFuncGrows
import Derived.Test.YtgnnglfbpcjadaaDoorSxG
import Derived.Test.YtgnnglfbpcjadaaDoorSxF
import Derived.Handed
import Derived.Shelf.Vars

/- Sets of small numbers: the program's own: the least member, all members one after the other, how many. -/
namespace Go.Proofs.YtgnnglfbpcjadaaDoor
open Go.Sx
set_option linter.unusedVariables false
set_option linter.unusedSimpArgs false
set_option maxRecDepth 100000

theorem tzTab_ok : ∀ k : Fin 64, tzTab.getD (((one k.1 * 285870213051353865#64) >>> 58).toNat) 0 = (k.1 : Int) := by decide
theorem tzTab_at : GlobAt PG.env 3 64 (fun c => .int .u8 (tzTab.getD c 0)) := by
  refine ⟨fun c => .int .u8 (tzTab.getD c 0), ?_, fun j hj => rfl⟩
  show _ ∈ PG.env
  unfold PG
  simp
theorem tz_le (m : M64) : tz m ≤ 64 := by
  by_cases h : m = 0#64
  · subst h; decide
  · exact Nat.le_of_lt (tz_spec h).1
theorem trailing_spec (m : M64) : Pure PG 92 [vm m] (vi (tz m : Int)) [] := by
  refine Proc.mk (cfg 14) tysOK [] Tryd.func92 rfl (by kernel_rfl) rfl rfl rfl ?_
  intro C x
  refine x.cond rfl trivial (fun h => ?_) (fun h => ?_)
  · have h : (m.toNat : Int) = 0 := by simpa using h
    refine x.exit rfl trivial ?_
    refine ⟨.inr rfl, ?_, trivial, rfl⟩
    rw [toNat_zero_iff.1 h]
    exact (show VEq0 (vi 64) (vi ((tz 0#64 : Nat) : Int)) from rfl)
  · have h : ¬ (m.toNat : Int) = 0 := by simpa using h
    have h0 : m ≠ 0#64 := fun e => h (toNat_zero_iff.2 e)
    obtain ⟨t1, t2, t3⟩ := tz_spec h0
    have e : (IntKind.u64.wrap (bitI .and .u64 (m.toNat : Int) (IntKind.u64.wrap (0 - (m.toNat : Int))) * 285870213051353865)).fdiv (2 ^ (min (58 : Int).toNat IntKind.u64.bits)) = (((one (tz m) * 285870213051353865#64) >>> 58).toNat : Int) := by
      rw [neg_m, and_m, low_one h0, show (285870213051353865 : Int) = ((285870213051353865#64 : M64).toNat : Int) from rfl, mul_m]
      exact shr_m _ (i := 58) (by omega)
    have hb : (((one (tz m) * 285870213051353865#64) >>> 58).toNat) < 64 := by
      rw [BitVec.toNat_ushiftRight, Nat.shiftRight_eq_div_pow]
      have := toNat_lt (one (tz m) * 285870213051353865#64)
      omega
    refine x.glob (fun c => .int .u8 (tzTab.getD c 0)) rfl (by simp only [AllP]; omega) rfl tzTab_at ?_ ?_
    · rw [e]; omega
    have hk := tzTab_ok ⟨tz m, t1⟩
    refine x.exit rfl ?_ ?_
    · show inI64 _
      rw [e, Int.toNat_natCast, hk]
      show inI64 (tz m : Int)
      unfold inI64; omega
    refine ⟨.inr rfl, ?_, trivial, rfl⟩
    refine veq0_d (congrArg (D.int .i64) ?_)
    rw [e, Int.toNat_natCast, hk]

theorem all_spec (m : M64) : Pure PG 79 [vm m] (.fn 91 [.ptr 0 0]) [.box [vm m]] := by
  refine Proc.mk (cfg 4) tysOK [0] Tryd.func79 rfl (by kernel_rfl) rfl rfl rfl ?_
  intro C x
  refine x.exit rfl trivial ?_
  exact ⟨.inr rfl, rfl, ⟨⟨rfl, trivial⟩, trivial⟩, rfl⟩

theorem and_sub1 {y : M64} (hy0 : y ≠ 0#64) : Go.bits BinOp.and IntKind.u64 (y.toNat : Int) ((y.toNat : Int) - 1) = ((y &&& (y - 1#64)).toNat : Int) := by
  rw [← and_m, ← sub1_m, wrap_u64]
  have := toNat_lt y
  have : y.toNat ≠ 0 := fun e => hy0 (by apply BitVec.eq_of_toNat_eq; exact e)
  rw [Int.emod_eq_of_lt (by omega) (by omega)]
  rfl
theorem all_rounds (m : M64) (l : Nat) (J Jx : Nat → World → Prop) (W : World) (b : Nat) (hJm : ∀ k W W', J k W → Mod none W W' → J k W') (hE : ∀ k W, J k W → ∃ F', EnvOK PG.env F' W ∧ (∀ k, F' k → k < W.heap.size)) (h0 : J 0 W)
    (hb : W.cell? ⟨b, 0, none⟩ = some (.int .u64 (m.toNat : Int)))
    (hY : ∀ (k : Nat) (i : Nat) W1, (bits m)[k]? = some i → J k W1 → YieldAt Fence.wide 7 Tryd.prog l #[.int .i64 (i : Int)] W1 fun e W' => (e = .returned (.bool true) ∧ J (k + 1) W') ∨ (e = .returned (.bool false) ∧ Jx k W')) :
    CallsIn Fence.wide 8 Tryd.prog 91 #[.func (.yield l) #[] #[], .pointer (some ⟨b, 0, none⟩)] W fun e W' => (∃ v, e = .returned v) ∧ (J (bits m).length W' ∨ ∃ k, k < (bits m).length ∧ Jx k W') := by
  refine callsIn_of_wp Tryd.func91 rfl trivial ?_ rfl
  simp only [Tryd.ntmps91, List.size_toArray, List.length_cons, List.length_nil, Nat.reduceAdd, Nat.reduceSub, Array.replicate_succ, Array.replicate_zero, List.push_toArray, List.append_toArray, List.nil_append, List.cons_append]
  gi_wp2
  gi_loopw [3] (fun p wr => ∃ (k : Nat) (y : M64), p = .int .u64 (y.toNat : Int) ∧ k ≤ (bits m).length ∧ bits y = (bits m).drop k ∧ J k wr) (fun p wr => match p with | .int _ n => n.toNat | _ => 0)
  case atStart => exact ⟨0, m, rfl, Nat.zero_le _, rfl, h0⟩
  case round =>
    obtain ⟨k, y, rfl, hkl, hk, hJ⟩ := hrel
    by_cases hy0 : y = 0#64
    · subst hy0
      have hkl2 : k = (bits m).length := by
        rw [bits_zero] at hk
        have := congrArg List.length hk
        simp at this
        omega
      gi_wp2
      go_end0
      exact ⟨⟨_, rfl⟩, .inl (hkl2 ▸ hJ)⟩
    · have hne : ¬ ((y.toNat : Int) = 0) := fun e => hy0 (toNat_zero_iff.1 e)
      have hst := bits_step hy0
      have hget : (bits m)[k]? = some (tz y) := by
        have : ((bits m).drop k)[0]? = some (tz y) := by rw [← hk, hst]; rfl
        simpa using this
      have hkl3 : k < (bits m).length := (List.getElem?_eq_some_iff.1 hget).1
      obtain ⟨F', hE', hF'⟩ := hE k wr hJ
      have hTZ : Calls Tryd.prog 92 #[.int .u64 (y.toNat : Int)] wr fun e w' => e = .returned (.int .i64 (tz y : Int)) ∧ Sx.Mod none wr w' := by
        refine ((trailing_spec y).2.2.2.2.2 wr F' (fun _ => .bool true) [.int .u64 (y.toNat : Int)] hF' hE' ⟨fun i c hc => by simp at hc, fun i j b hi => absurd hi (Nat.not_lt_zero _), fun i b hi => absurd hi (Nat.not_lt_zero _)⟩ ⟨RD.int _ _, trivial⟩).mono ?_
        rintro e w' ⟨v, ρ', F'', rfl, hk, _, _, _, _, hr, _⟩
        refine ⟨?_, ⟨hk.os, hk.tape, hk.output, hk.size, fun k hlt _ => hk.block k hlt (fun ⟨i, hi, _⟩ => absurd hi (Nat.not_lt_zero _))⟩⟩
        cases (show RD F'' w' (.int .i64 (tz y : Int)) v from hr); rfl
      gi_wp2_with (refine ⟨trivial, ?_⟩; gi_at_call 92; refine (callsIn_wide.2 hTZ).mono ?_; rintro e w1 ⟨rfl, hm⟩)
      obtain ⟨fn, tmps, assign, body, hy, hR⟩ := hY k (tz y) w1 hget (hJm k _ _ hJ hm)
      gi_wp2
      rw [hy, Oper.uponIn_round]
      refine ⟨fun h => (by cases h), hR.mono ?_⟩
      rintro e W3 (⟨rfl, hJ3⟩ | ⟨rfl, hJx3⟩)
      · gi_wp2
        go_roundw
        case rel =>
          refine ⟨k + 1, y &&& (y - 1#64), ?_, hkl3, ?_, hJ3⟩
          · rw [and_sub1 hy0]
          · rw [← List.drop_drop, ← hk, hst]; rfl
        case measure =>
          rw [and_sub1 hy0]
          show ((y &&& (y - 1#64)).toNat : Int).toNat < (y.toNat : Int).toNat
          have h1 : (y &&& (y - 1#64)).toNat ≤ (y - 1#64).toNat := by rw [BitVec.toNat_and]; exact Nat.and_le_right
          have h2 : (y - 1#64).toNat < y.toNat := by
            rw [BitVec.toNat_sub]
            have := toNat_lt y
            have : y.toNat ≠ 0 := fun e => hy0 (by apply BitVec.eq_of_toNat_eq; exact e)
            show (2 ^ 64 - 1 + y.toNat) % 2 ^ 64 < y.toNat
            omega
          omega
      · gi_wp2
        refine bodyPost_ret (results_none rfl _ _ _) rfl ?_
        exact ⟨⟨_, rfl⟩, .inr ⟨k, hkl3, hJx3⟩⟩

/-- **What mask.All gives**: the set's members, in order. -/
theorem all_seq (m : M64) : Its PG 91 [.ptr 0 0] [.box [vm m]] ((bits m).map fun (i : Nat) => [vi (i : Int)]) := by
  refine ⟨callable_of Tryd.func91 (by kernel_rfl) (by kernel_rfl), rfl, fun x hx => ?_, fun w F ρ cs hF hE hH hargs l J Jx hJm hJe h0 hY => ?_⟩
  · obtain ⟨i, _, rfl⟩ := List.mem_map.1 hx
    rfl
  obtain ⟨b, cs', T, e1, e2, e3⟩ := hH.ch 0 _ rfl
  match cs, hargs with
  | [v], ⟨⟨b', f1, f2⟩, _⟩ =>
    rw [e1] at f1
    simp only [Value.pointer.injEq, Option.some.injEq, Addr.mk.injEq, and_true] at f1
    subst f1 f2
    match cs', e3 with
    | [c], ⟨hc, _⟩ =>
      have hc2 : c = .int .u64 (m.toNat : Int) := by cases (show RD F w (dm m) c from hc); rfl
      subst hc2
      have hb : w.cell? ⟨b, 0, none⟩ = some (.int .u64 (m.toNat : Int)) := by simp [World.cell?, e2]
      have := all_rounds m l J Jx w b hJm (fun k W hJ => (hJe k W hJ).1) h0 hb (fun k i W1 hk hJ => hY k [vi (i : Int)] W1 [.int .i64 (i : Int)] (by rw [List.getElem?_map, hk]; rfl) hJ ⟨RD.int _ _, trivial⟩)
      rw [List.length_map]
      exact this
    | [], h => exact h.elim
    | _ :: _ :: _, ⟨_, h⟩ => exact h.elim
  | [], h => exact h.elim
  | _ :: _ :: _, ⟨_, h⟩ => exact h.elim

/-- How many. -/
def countM (m : M64) : Int := ((bits m).length : Int)
end Go.Proofs.YtgnnglfbpcjadaaDoor

/- Orders: the program's own: the least of a set, the order turned round, which may be. -/
namespace Go.Proofs.YtgnnglfbpcjadaaDoor
open Go.Sx
set_option linter.unusedVariables false
set_option linter.unusedSimpArgs false
set_option maxRecDepth 100000

theorem drop_cons {α : Type} {l : List α} {k : Nat} {a : α} (h : l[k]? = some a) : l.drop k = a :: l.drop (k + 1) := by
  obtain ⟨h1, rfl⟩ := List.getElem?_eq_some_iff.1 h
  rw [List.drop_eq_getElem_cons h1]
theorem bits_at {m : M64} {k : Nat} {y : List V} (h : ((bits m).map fun (i : Nat) => [vi (i : Int)])[k]? = some y) : ∃ i, (bits m)[k]? = some i ∧ y = [vi (i : Int)] ∧ bit m i = true ∧ i < 64 := by
  rw [List.getElem?_map] at h
  cases hk : (bits m)[k]? with
  | none => rw [hk] at h; cases h
  | some i =>
    rw [hk] at h
    have hm := List.mem_of_getElem? hk
    exact ⟨i, rfl, by simpa using h.symm, mem_bits.1 hm, bits_lt hm⟩
theorem len_bits {m : M64} : ((bits m).map fun (i : Nat) => [vi (i : Int)]).length = (bits m).length := List.length_map ..

theorem andNot_zero {x y : M64} : bitI .andNot .u64 (x.toNat : Int) (y.toNat : Int) = 0 ↔ x &&& ~~~ y = 0#64 := by rw [andNot_m, toNat_zero_iff]
theorem least_spec (up : List M64) (set : M64) (hi : InU up.length set) : Pure PG 56 [vU up, vm set] (vi (leastM up set)) [] := by
  refine Proc.mkR (cfg 17) tysOK [] Tryd.func56 rfl (by kernel_rfl) rfl rfl rfl ?_
  intro C x hmk
  refine x.pure rfl trivial rfl (all_spec set) ⟨rfl, trivial⟩ ?_
  refine x.range (ps := [8]) hmk [3] (fun k => leastF up set ((bits set).drop k) = leastM up set) (fun k => [(0, .box [vU up]), (1, .box [vm set]), (2, .box [vi 0])]) (fun k c H' => c = .ret ∧ H' = [(2, .box [vi (((bits set).getD k 0 : Nat) : Int)])] ∧ set &&& ~~~ upA up ((bits set).getD k 0) = 0#64) rfl trivial rfl (all_seq set) ⟨⟨rfl, rfl⟩, trivial⟩ rfl ⟨⟨rfl, trivial⟩, trivial⟩ (fun y hy => ?_) (fun k => rfl) (fun k c H' h => by obtain ⟨_, rfl, _⟩ := h; rfl) rfl ⟨⟨veq0_d rfl, trivial⟩, ⟨rfl, trivial⟩, ⟨rfl, trivial⟩, trivial⟩ (fun k y hy hP C1 x1 => ?_) (fun hP => ?_) (fun k c H' hk hP h => ?_)
  · obtain ⟨i, _, rfl⟩ := List.mem_map.1 hy
    rfl
  · obtain ⟨i, hgi, rfl, hb, h64⟩ := bits_at hy
    have hi := hi i hb
    have hgD : (bits set).getD k 0 = i := by rw [List.getD_eq_getElem?_getD, hgi]; rfl
    refine x1.exit rfl trivial ⟨rfl, fun C2 x2 => ?_⟩
    refine x2.rquiet rfl trivial mixedP (by kernel_rfl) RoundR.noOut ?_
    refine x2.qdone rfl (by simp only [AllP]; omega) ?_
    refine x2.cond rfl trivial (fun h => ?_) (fun h => ?_)
    · have h0 := andNot_zero.1 (of_decide_eq_true h)
      refine x2.exit rfl trivial ?_
      exact ⟨[(2, .box [vi (((bits set).getD k 0 : Nat) : Int)])], ⟨rfl, rfl, by rw [hgD]; exact h0⟩, ⟨veq0_d (by rw [hgD]), trivial⟩, trivial⟩
    · have h0 : ¬ set &&& ~~~ upA up i = 0#64 := fun e => of_decide_eq_false h (andNot_zero.2 e)
      refine x2.exit rfl trivial ?_
      refine ⟨?_, ⟨veq0_d rfl, trivial⟩, ⟨rfl, trivial⟩, ⟨rfl, trivial⟩, trivial⟩
      rw [← hP, drop_cons hgi, leastF, if_neg h0]
  · refine x.exit rfl trivial ?_
    rw [len_bits, List.drop_length] at hP
    exact ⟨.inr rfl, (show VEq0 (vi (-1)) (vi (leastM up set)) by rw [← hP]; rfl), trivial, rfl⟩
  · obtain ⟨rfl, rfl, h⟩ := h
    rw [len_bits] at hk
    refine x.exit rfl trivial ?_
    have hgi : (bits set)[k]? = some ((bits set).getD k 0) := by rw [List.getD_eq_getElem?_getD, List.getElem?_eq_getElem hk]; rfl
    refine ⟨.inr rfl, ?_, trivial, rfl⟩
    show VEq0 (vi (((bits set).getD k 0 : Nat) : Int)) (vi (leastM up set))
    rw [← hP, drop_cons hgi, leastF, if_pos h]
    exact rfl

/-- Of level k: the levels below i at or below it, and i where k is among l. -/
def rowT (up : List M64) (i : Nat) (l : List Nat) (k : Nat) : M64 := ofP fun a => (decide (a < i) && bit (upA up a) k) || (decide (a = i) && decide (k ∈ l))
theorem rowT_step {up : List M64} {i k r : Nat} {l : List Nat} (hi : i < 64) : (if r = k then withM (rowT up i l k) (i : Int) else rowT up i l r) = rowT up i (l ++ [k]) r := by
  refine m_ext fun a ha => ?_
  unfold rowT
  rw [bit_ofP _ ha]
  split
  · rename_i e
    subst e
    rw [bit_withM, bit_ofP _ ha]
    by_cases h : a = i
    · subst h; simp [ha]
    · have : ¬ (a < 64 ∧ (a : Int) = (i : Int)) := by omega
      simp [h, this]
  · rename_i e
    rw [bit_ofP _ ha]
    simp [e]
theorem rowT_next {up : List M64} {i r : Nat} : rowT up i (bits (upA up i)) r = rowT up (i + 1) [] r := by
  unfold rowT
  refine ofP_congr fun a ha => ?_
  by_cases h : a = i
  · subst h
    by_cases hb : bit (upA up a) r = true
    · simp [mem_bits, hb]
    · simp [mem_bits, hb]
  · by_cases h2 : a < i
    · have h3 : a < i + 1 := by omega
      simp [h, h2, h3]
    · have h3 : ¬ a < i + 1 := by omega
      simp [h, h2, h3]
theorem rowT_zero {up : List M64} {r : Nat} : rowT up 0 [] r = 0#64 := m_zero.2 fun a ha => by unfold rowT; rw [bit_ofP _ ha]; simp
theorem rowT_end {up : List M64} {r : Nat} (hr : r < up.length) : rowT up up.length [] r = upA (turnedM up) r := by
  rw [upA_turned up hr]
  unfold rowT
  exact ofP_congr fun a ha => by simp
abbrev vecU (n : Nat) (f : Nat → M64) : Ch := .vec 61 1 n fun r => [dm (f r)]

theorem take_succ {α : Type} {l : List α} {k : Nat} {a : α} (h : l[k]? = some a) : l.take (k + 1) = l.take k ++ [a] := by
  obtain ⟨h1, rfl⟩ := List.getElem?_eq_some_iff.1 h
  rw [List.take_succ_eq_append_getElem h1]
theorem turned_spec (up : List M64) (h64 : up.length ≤ 64) (hin : ∀ i, i < up.length → InU up.length (upA up i)) : Pure PG 57 [vU up] (.own 0) [vecU up.length fun r => upA (turnedM up) r] := by
  refine Proc.mkR (cfg 31) tysOK [0] Tryd.func57 rfl (by kernel_rfl) rfl rfl rfl ?_
  intro C x hmk
  refine x.loop (α := { i : Nat // i ≤ up.length }) (fun y => ⟨[(0, vU up), (3, .ptr 1 0), (10, vi (up.length : Int)), (11, vi (y.1 : Int))], [(0, vecU up.length fun r => rowT up y.1 [] r), (1, .box [.own 0])], 2⟩) (fun y => up.length - y.1) ⟨0, by omega⟩ rfl ?_ ?_ (fun y => ?_)
  · simp only [AllP, big, Int.toNat_natCast]; omega
  · refine ⟨⟨veq_d rfl, ⟨rfl, rfl⟩, rfl, rfl, trivial⟩, ⟨⟨rfl, rfl, Int.toNat_natCast _, fun r hr => ?_⟩, ⟨rfl, trivial⟩, trivial⟩, rfl⟩
    show [D.int .u64 0] = [dm (rowT up 0 [] r)]
    rw [rowT_zero]; rfl
  obtain ⟨i, hi⟩ := y
  change Go C _ ⟨[(0, vU up), (3, .ptr 1 0), (10, vi (up.length : Int)), (11, vi (i : Int))], [(0, vecU up.length fun r => rowT up i [] r), (1, .box [.own 0])], 2⟩ _
  refine x.cond rfl trivial (fun h1 => ?_) (fun h1 => ?_)
  · have h1 : i < up.length := by have := of_decide_eq_true h1; omega
    refine x.pure rfl ?_ rfl (all_spec (upA up i)) ⟨rfl, trivial⟩ ?_
    · simp only [AllP]; omega
    refine x.range (ps := [19]) hmk [3] (fun _ => True) (fun k => [(0, vecU up.length fun r => rowT up i ((bits (upA up i)).take k) r), (1, .box [.own 0]), (2, .box [vi (i : Int)])]) (fun _ _ _ => False) rfl trivial rfl (all_seq (upA up i)) ⟨⟨rfl, rfl⟩, trivial⟩ rfl ⟨⟨rfl, trivial⟩, trivial⟩ (fun y hy => ?_) (fun k => rfl) (fun k c H' h => h.elim) trivial ?_ (fun k y hy _ C1 x1 => ?_) (fun _ => ?_) (fun k c H' _ _ h => h.elim)
    · obtain ⟨i, _, rfl⟩ := List.mem_map.1 hy
      rfl
    · exact ⟨⟨rfl, rfl, rfl, fun _ _ => rfl⟩, ⟨rfl, trivial⟩, ⟨rfl, trivial⟩, trivial⟩
    · obtain ⟨k', hgi, rfl, hb, hk64⟩ := bits_at hy
      have hk := hin i h1 k' hb
      refine x1.exit rfl trivial ⟨rfl, fun C2 x2 => ?_⟩
      refine x2.rplan [1, 3] [0, 2, 4, 5, 6, 7, 8] [9] rfl trivial mixedP (by kernel_rfl) RoundR.noPanic RoundR.noOut ?_
      refine x2.qcall rfl ?_ rfl (with_spec (rowT up i ((bits (upA up i)).take k) k') i) rfl rfl ⟨rfl, rfl, trivial⟩ ?_
      · simp only [AllP]; omega
      refine x2.qdone rfl ?_ ?_
      · simp only [AllP]; omega
      refine x2.exit rfl ?_ ⟨trivial, ⟨rfl, rfl, rfl, fun r hr => ?_⟩, ⟨rfl, trivial⟩, ⟨rfl, trivial⟩, trivial⟩
      · simp only [AllP, List.length, Int.toNat_natCast]; omega
      · have := rowT_step (up := up) (i := i) (k := k') (r := r) (l := (bits (upA up i)).take k) (by omega)
        show put2 (fun r => [dm (rowT up i ((bits (upA up i)).take k) r)]) k' 0 [dm (withM (rowT up i ((bits (upA up i)).take k) k') (i : Int))] r = [dm (rowT up i ((bits (upA up i)).take (k + 1)) r)]
        rw [put2_int, take_succ hgi, ← this]
        show [D.int .u64 (if r = k' then _ else _)] = [dm (if r = k' then _ else _)]
        split <;> rfl
    · refine x.back rfl ?_ ⟨⟨i + 1, by omega⟩, by show up.length - (i + 1) < up.length - i; omega, ?_⟩
      · simp only [AllP, inI64]; omega
      · refine ⟨⟨veq_d rfl, ⟨rfl, rfl⟩, rfl, (show VEq0 (vi ((i : Int) + 1)) (vi ((i + 1 : Nat) : Int)) by rw [Int.natCast_add]; rfl), trivial⟩, ⟨⟨rfl, rfl, rfl, fun r hr => ?_⟩, ⟨rfl, trivial⟩, trivial⟩, rfl⟩
        show [dm (rowT up i ((bits (upA up i)).take _) r)] = [dm (rowT up (i + 1) [] r)]
        rw [len_bits, List.take_length, rowT_next]
  · have h1 : i = up.length := by have := of_decide_eq_false h1; omega
    refine x.exit rfl trivial ?_
    refine ⟨.inr rfl, rfl, ⟨⟨rfl, rfl, rfl, fun r hr => ?_⟩, trivial⟩, rfl⟩
    show [dm (rowT up i [] r)] = [dm (upA (turnedM up) r)]
    rw [h1, rowT_end hr]

theorem below_ofP {n : Nat} (h : n ≤ 64) : belowM (n : Int) = ofP fun j => decide (j < n) := m_ext fun j hj => by
  rw [bit_belowM, bit_ofP _ hj]
  simp only [decide_eq_decide]
  omega
def rowOK (up : List M64) (i k : Nat) : Bool := decide (upA up k &&& ~~~ upA up i = 0#64) && !(decide (k ≠ i) && bit (upA up k) i)
theorem orderRow_eq (up : List M64) (i : Nat) : orderRow up i = (bit (upA up i) i && decide (upA up i &&& ~~~ ofP (fun j => decide (j < up.length)) = 0#64) && (bits (upA up i)).all (rowOK up i)) := rfl

theorem order_spec (up : List M64) (hl : inI64 (up.length : Int)) : Pure PG 54 [vU up] (vb (orderM up)) [] := by
  refine Proc.mkR (cfg 59) tysOK [] Tryd.func54 rfl (by kernel_rfl) rfl rfl rfl ?_
  intro C x hmk
  refine x.cond rfl trivial (fun h0 => ?_) (fun h0 => ?_)
  · refine x.exit rfl trivial ⟨.inr rfl, ?_, trivial, rfl⟩
    show false = orderM up
    have h0 : (decide ((up.length : Int) < 1) || decide (64 < (up.length : Int))) = true := h0
    rw [eq_comm, orderM, Bool.and_eq_false_iff, Bool.and_eq_false_iff]
    simp only [Bool.or_eq_true, decide_eq_true_eq] at h0
    refine .inl (h0.imp (fun h => decide_eq_false (by omega)) (fun h => decide_eq_false (by omega)))
  have hlen : 1 ≤ up.length ∧ up.length ≤ 64 := by
    have h0 : (decide ((up.length : Int) < 1) || decide (64 < (up.length : Int))) = false := h0
    simp only [Bool.or_eq_false_iff, decide_eq_false_iff_not] at h0
    omega
  have hno : ∀ i, i < up.length → orderRow up i = false → orderM up = false := fun i hi h => by
    rw [orderM, Bool.and_eq_false_iff]
    refine .inr (List.all_eq_false.2 ⟨i, List.mem_range.2 hi, by rw [h]; simp⟩)
  have hand : ∀ i, bitI .andNot .u64 ((upA up i).toNat : Int) ((belowM (up.length : Int)).toNat : Int) = 0 ↔ upA up i &&& ~~~ ofP (fun j => decide (j < up.length)) = 0#64 := fun i => by rw [andNot_zero, below_ofP hlen.2]
  refine x.pure rfl trivial rfl (below_spec (up.length : Int) hl) ⟨rfl, trivial⟩ ?_
  refine x.loop (α := { i : Nat // i ≤ up.length ∧ ∀ a, a < i → orderRow up a = true }) (fun y => ⟨[(1, .ptr 0 0), (2, .ptr 1 0), (3, vm (belowM (up.length : Int))), (18, vU up), (19, vi (up.length : Int)), (20, vi (y.1 : Int))], [(0, .box [vU up]), (1, .box [vb false])], 2⟩) (fun y => up.length - y.1) ⟨0, by omega, fun a ha => by omega⟩ rfl trivial ?_ (fun y => ?_)
  · exact ⟨⟨⟨rfl, rfl⟩, ⟨rfl, rfl⟩, rfl, veq_d rfl, rfl, rfl, trivial⟩, ⟨⟨veq0_d rfl, trivial⟩, ⟨rfl, trivial⟩, trivial⟩, rfl⟩
  obtain ⟨i, hi, hdone⟩ := y
  change Go C _ ⟨[(1, .ptr 0 0), (2, .ptr 1 0), (3, vm (belowM (up.length : Int))), (18, vU up), (19, vi (up.length : Int)), (20, vi (i : Int))], [(0, .box [vU up]), (1, .box [vb false])], 2⟩ _
  refine x.cond rfl trivial (fun h1 => ?_) (fun h1 => ?_)
  · have h1 : i < up.length := by have := of_decide_eq_true h1; omega
    refine x.pure rfl ?_ rfl (has_spec (upA up i) i) ⟨rfl, rfl, trivial⟩ ?_
    · simp only [AllP]; omega
    refine x.cond rfl trivial (fun h2 => ?_) (fun h2 => ?_)
    · refine x.exit rfl trivial ⟨.inr rfl, ?_, trivial, rfl⟩
      show false = orderM up
      refine (hno i h1 ?_).symm
      have h2 : (!hasM (upA up i) (i : Int) || !decide (bitI .andNot .u64 ((upA up i).toNat : Int) ((belowM (up.length : Int)).toNat : Int) = 0)) = true := h2
      rw [hasM_nat, Bool.or_eq_true, Bool.not_eq_true', Bool.not_eq_true', decide_eq_false_iff_not, hand] at h2
      rw [orderRow_eq, Bool.and_eq_false_iff, Bool.and_eq_false_iff]
      exact .inl (h2.imp id decide_eq_false)
    have hrow : bit (upA up i) i = true ∧ upA up i &&& ~~~ ofP (fun j => decide (j < up.length)) = 0#64 := by
      have h2 : (!hasM (upA up i) (i : Int) || !decide (bitI .andNot .u64 ((upA up i).toNat : Int) ((belowM (up.length : Int)).toNat : Int) = 0)) = false := h2
      rw [hasM_nat, Bool.or_eq_false_iff, Bool.not_eq_false', Bool.not_eq_false', decide_eq_true_eq, hand] at h2
      exact h2
    have hin : InU up.length (upA up i) := fun j hj => by
      have h64 : j < 64 := by
        by_cases h64 : j < 64
        · exact h64
        · rw [bit_ge _ (by omega)] at hj; cases hj
      have := zero_iff_sub.1 hrow.2 j hj
      rw [bit_ofP _ h64] at this
      simpa using this
    have hrowE : orderRow up i = (bits (upA up i)).all (rowOK up i) := by rw [orderRow_eq, hrow.1, decide_eq_true hrow.2]; rfl
    refine x.pure rfl trivial rfl (all_spec (upA up i)) ⟨rfl, trivial⟩ ?_
    refine x.range (ps := [37]) hmk [4] (fun k => ∀ j, j < k → rowOK up i ((bits (upA up i)).getD j 0) = true) (fun k => [(0, .box [vU up]), (1, .box [vb false]), (2, .box [vi (i : Int)]), (3, .box [vm (upA up i)])]) (fun k c H' => c = .ret ∧ H' = [(1, .box [vb false])] ∧ rowOK up i ((bits (upA up i)).getD k 0) = false) rfl trivial rfl (all_seq (upA up i)) ⟨⟨rfl, rfl⟩, trivial⟩ rfl ⟨⟨rfl, trivial⟩, trivial⟩ (fun y hy => ?_) (fun k => rfl) (fun k c H' h => by obtain ⟨_, rfl, _⟩ := h; rfl) (fun j hj => by omega) ⟨⟨veq0_d rfl, trivial⟩, ⟨rfl, trivial⟩, ⟨rfl, trivial⟩, ⟨rfl, trivial⟩, trivial⟩ (fun k y hy hP C1 x1 => ?_) (fun hP => ?_) (fun k c H' hk hP h => ?_)
    · obtain ⟨i, _, rfl⟩ := List.mem_map.1 hy
      rfl
    · obtain ⟨k', hgi, rfl, hb, hk64⟩ := bits_at hy
      have hk := hin k' hb
      have hgD : (bits (upA up i)).getD k 0 = k' := by rw [List.getD_eq_getElem?_getD, hgi]; rfl
      refine x1.exit rfl trivial ⟨rfl, fun C2 x2 => ?_⟩
      refine x2.rquiet rfl trivial mixedP (by kernel_rfl) RoundR.noOut ?_
      refine x2.qcallG rfl ?_ rfl (fun _ _ => has_spec (upA up k') i) rfl rfl ⟨rfl, rfl, trivial⟩ ?_
      · have hh : 0 ≤ (k' : Int) ∧ (k' : Int) < (up.length : Int) := by omega
        exact ⟨hh, fun _ _ => hh⟩
      refine x2.qdone rfl trivial ?_
      have hE : rowOK up i k' = !(!decide (bitI .andNot .u64 ((upA up k').toNat : Int) ((upA up i).toNat : Int) = 0) || (!decide ((k' : Int) = (i : Int)) && hasM (upA up k') (i : Int))) := by
        unfold rowOK
        rw [hasM_nat, Bool.not_or, Bool.not_not]
        congr 1
        · rw [decide_eq_decide]; exact andNot_zero.symm
        · congr 2
          rw [decide_not]
          congr 1
          rw [decide_eq_decide]; omega
      refine x2.cond rfl trivial (fun h => ?_) (fun h => ?_)
      · refine x2.exit rfl trivial ?_
        refine ⟨[(1, .box [vb false])], ⟨rfl, rfl, ?_⟩, ⟨rfl, trivial⟩, trivial⟩
        rw [hgD, hE]
        exact (congrArg not h).trans rfl
      · refine x2.exit rfl trivial ?_
        refine ⟨fun j hj => ?_, ⟨veq0_d rfl, trivial⟩, ⟨rfl, trivial⟩, ⟨rfl, trivial⟩, ⟨rfl, trivial⟩, trivial⟩
        by_cases e : j = k
        · rw [e, hgD, hE]
          exact (congrArg not h).trans rfl
        · exact hP j (by omega)
    · refine x.back rfl ?_ ⟨⟨i + 1, by omega, fun a ha => ?_⟩, by show up.length - (i + 1) < up.length - i; omega, ?_⟩
      · simp only [AllP, inI64]; omega
      · by_cases e : a = i
        · rw [e, hrowE, List.all_eq_true]
          intro k' hk'
          obtain ⟨k, hk, rfl⟩ := List.getElem_of_mem hk'
          have := hP k (by rw [len_bits]; exact hk)
          rwa [List.getD_eq_getElem?_getD, List.getElem?_eq_getElem hk] at this
        · exact hdone a (by omega)
      · exact ⟨⟨⟨rfl, rfl⟩, ⟨rfl, rfl⟩, rfl, veq_d rfl, rfl, (show VEq0 (vi ((i : Int) + 1)) (vi ((i + 1 : Nat) : Int)) by rw [Int.natCast_add]; rfl), trivial⟩, ⟨⟨veq0_d rfl, trivial⟩, ⟨rfl, trivial⟩, trivial⟩, rfl⟩
    · obtain ⟨rfl, rfl, h⟩ := h
      rw [len_bits] at hk
      refine x.exit rfl trivial ⟨.inr rfl, ?_, trivial, rfl⟩
      show false = orderM up
      refine (hno i h1 ?_).symm
      rw [hrowE, List.all_eq_false]
      exact ⟨(bits (upA up i)).getD k 0, by rw [List.getD_eq_getElem?_getD, List.getElem?_eq_getElem hk]; exact List.getElem_mem hk, by rw [h]; simp⟩
  · have h1 : i = up.length := by have := of_decide_eq_false h1; omega
    refine x.exit rfl trivial ⟨.inr rfl, ?_, trivial, rfl⟩
    show true = orderM up
    rw [eq_comm, orderM, decide_eq_true hlen.1, decide_eq_true hlen.2]
    refine List.all_eq_true.2 fun a ha => hdone a (by have := List.mem_range.1 ha; omega)

theorem each_false {up : List M64} {a b : Nat} (ha : a < up.length) (hb : b < a) (h : leastM up (upA up a &&& upA up b) < 0) : eachM up = false := by
  unfold eachM
  rw [List.all_eq_false]
  refine ⟨a, List.mem_range.2 ha, ?_⟩
  rw [Bool.not_eq_true, List.all_eq_false]
  exact ⟨b, List.mem_range.2 hb, by simp; omega⟩
theorem each_spec (up : List M64) (h64 : up.length ≤ 64) (hin : ∀ i, i < up.length → InU up.length (upA up i)) : Pure PG 55 [vU up] (vb (eachM up)) [] := by
  refine Proc.mk (cfg 28) tysOK [] Tryd.func55 rfl (by kernel_rfl) rfl rfl rfl ?_
  intro C x
  refine x.loop (α := { i : Nat // i ≤ up.length ∧ ∀ a b, a < i → b < a → 0 ≤ leastM up (upA up a &&& upA up b) }) (fun y => ⟨[(0, vU up), (6, vi (up.length : Int)), (7, vi (y.1 : Int))], [], 0⟩) (fun y => up.length - y.1) ⟨0, by omega, fun a b ha => by omega⟩ rfl trivial ⟨⟨veq_d rfl, rfl, rfl, trivial⟩, trivial, rfl⟩ (fun y => ?_)
  obtain ⟨i, hi, hdone⟩ := y
  change Go C _ ⟨[(0, vU up), (6, vi (up.length : Int)), (7, vi (i : Int))], [], 0⟩ _
  refine x.cond rfl trivial (fun h1 => ?_) (fun h1 => ?_)
  · have h1 : i < up.length := by have := of_decide_eq_true h1; omega
    refine x.loop (α := { b : Nat // b ≤ i ∧ ∀ c, c < b → 0 ≤ leastM up (upA up i &&& upA up c) }) (fun z => ⟨[(0, vU up), (3, vi (i : Int)), (6, vi (up.length : Int)), (7, vi (i : Int)), (10, vi (i : Int)), (11, vi (z.1 : Int))], [], 0⟩) (fun z => i - z.1) ⟨0, by omega, fun a ha => by omega⟩ rfl trivial ⟨⟨veq_d rfl, rfl, rfl, rfl, rfl, rfl, trivial⟩, trivial, rfl⟩ (fun z => ?_)
    obtain ⟨b, hb, hd2⟩ := z
    change Go C _ ⟨[(0, vU up), (3, vi (i : Int)), (6, vi (up.length : Int)), (7, vi (i : Int)), (10, vi (i : Int)), (11, vi (b : Int))], [], 0⟩ _
    refine x.cond rfl trivial (fun h2 => ?_) (fun h2 => ?_)
    · have h2 : b < i := by have := of_decide_eq_true h2; omega
      refine x.quiet rfl trivial mixedP (by kernel_rfl) ?_
      refine x.qcall rfl ?_ rfl (least_spec up (upA up i &&& upA up b) (inU_and (hin i h1))) rfl rfl ⟨veq_d rfl, (show VEq0 (.d (.int .u64 (bitI .and .u64 ((upA up i).toNat : Int) ((upA up b).toNat : Int)))) (vm (upA up i &&& upA up b)) by rw [and_m]; rfl), trivial⟩ ?_
      · simp only [AllP]; omega
      refine x.qdone rfl trivial ?_
      refine x.cond rfl trivial (fun h3 => ?_) (fun h3 => ?_)
      · refine x.exit rfl trivial ⟨.inr rfl, ?_, trivial, rfl⟩
        exact (each_false h1 h2 (of_decide_eq_true h3)).symm
      · have h3 := of_decide_eq_false h3
        refine x.back rfl ?_ ⟨⟨b + 1, by omega, fun c hc => ?_⟩, by show i - (b + 1) < i - b; omega, ⟨veq_d rfl, rfl, rfl, rfl, rfl, (show VEq0 (vi ((b : Int) + 1)) (vi ((b + 1 : Nat) : Int)) by rw [Int.natCast_add]; rfl), trivial⟩, trivial, rfl⟩
        · simp only [AllP, inI64]; omega
        · by_cases e : c = b
          · rw [e]; omega
          · exact hd2 c (by omega)
    · have h2 : b = i := by have := of_decide_eq_false h2; omega
      subst h2
      refine x.back rfl ?_ ⟨⟨b + 1, by omega, fun a c ha hc => ?_⟩, by show up.length - (b + 1) < up.length - b; omega, ⟨veq_d rfl, rfl, (show VEq0 (vi ((b : Int) + 1)) (vi ((b + 1 : Nat) : Int)) by rw [Int.natCast_add]; rfl), trivial⟩, trivial, rfl⟩
      · simp only [AllP, inI64]; omega
      · by_cases e : a = b
        · subst e; exact hd2 c hc
        · exact hdone a c (by omega) hc
  · have h1 : i = up.length := by have := of_decide_eq_false h1; omega
    subst h1
    refine x.exit rfl trivial ⟨.inr rfl, ?_, trivial, rfl⟩
    show true = eachM up
    rw [eq_comm, eachM, List.all_eq_true]
    intro a ha
    rw [List.all_eq_true]
    intro b hb
    exact decide_eq_true (hdone a b (List.mem_range.1 ha) (List.mem_range.1 hb))

theorem turned_frozen (up : List M64) (h64 : up.length ≤ 64) (hin : ∀ i, i < up.length → InU up.length (upA up i)) : Pure PG 57 [vU up] (vU (turnedM up)) [] := by
  have h := Pure.froze (turned_spec up h64 hin)
  unfold vU dUp
  rw [turned_len]
  exact h
theorem right5_spec (up : List M64) (hl : inI64 (up.length : Int)) : Pure PG 42 [vU up] (vb (rightM up)) [] := by
  refine Proc.mk (cfg 16) tysOK [] Tryd.func42 rfl (by kernel_rfl) rfl rfl rfl ?_
  intro C x
  refine x.pure rfl trivial rfl (order_spec up hl) ⟨veq_d rfl, trivial⟩ ?_
  refine x.cond rfl trivial (fun h => ?_) (fun h => ?_)
  · have h : (!orderM up) = true := h
    refine x.exit rfl trivial ⟨.inr rfl, ?_, trivial, rfl⟩
    show false = rightM up
    rw [rightM, show orderM up = false by simpa using h]; rfl
  have ho : orderM up = true := by
    have h : (!orderM up) = false := h
    simpa using h
  have h64 := (order_len ho).2
  have hin : ∀ i, i < up.length → InU up.length (upA up i) := fun i hi => inU_order ho hi
  have ht64 : (turnedM up).length ≤ 64 := by rw [turned_len]; exact h64
  refine x.pure rfl trivial rfl (each_spec up h64 hin) ⟨veq_d rfl, trivial⟩ ?_
  refine x.pureG rfl trivial rfl (fun _ => turned_frozen up h64 hin) rfl ⟨veq_d rfl, trivial⟩ ?_
  refine x.pureG rfl trivial rfl (fun _ => each_spec (turnedM up) ht64 fun i hi => inU_turned (by rw [← turned_len up]; exact hi)) rfl ⟨veq_d rfl, trivial⟩ ?_
  refine x.exit rfl trivial ⟨.inr rfl, ?_, trivial, rfl⟩
  show VEq0 (vb (eachM up && eachM (turnedM up))) (vb (rightM up))
  rw [rightM, ho]; exact rfl
end Go.Proofs.YtgnnglfbpcjadaaDoor

/- Orders: the program's own: a lattice of pairs. -/
namespace Go.Proofs.YtgnnglfbpcjadaaDoor
open Go.Sx
set_option linter.unusedVariables false
set_option linter.unusedSimpArgs false
set_option maxRecDepth 100000

/-- Pairs of levels, as data. -/
def dPairs (ps : List (Nat × Nat)) : D := .sl 2 ps.length fun i => [.int .i64 ((ps.getD i (0, 0)).1 : Int), .int .i64 ((ps.getD i (0, 0)).2 : Int)]
abbrev vPairs (ps : List (Nat × Nat)) : V := .d (dPairs ps)
/-- Each level, and what the pairs say. -/
def pairRow (ps : List (Nat × Nat)) (r : Nat) : M64 := ofP fun j => decide (j = r) || decide ((r, j) ∈ ps)
/-- One step of the closure. -/
def wStep (f : Nat → M64) (k i : Nat) : Nat → M64 := fun r => if r = i then (if bit (f i) k then f i ||| f k else f i) else f r
def wRow (f : Nat → M64) (k : Nat) : Nat → Nat → M64
  | 0 => f
  | i + 1 => wStep (wRow f k i) k i
def wAll (n : Nat) (f : Nat → M64) : Nat → Nat → M64
  | 0 => f
  | k + 1 => wRow (wAll n f k) k n
/-- The closure. -/
def closed (n : Nat) (ps : List (Nat × Nat)) : Nat → M64 := wAll n (pairRow ps) n
def closeM (n : Nat) (ps : List (Nat × Nat)) : List M64 := (List.range n).map (closed n ps)
theorem close_len (n : Nat) (ps : List (Nat × Nat)) : (closeM n ps).length = n := by simp [closeM]
theorem close_at {n : Nat} {ps : List (Nat × Nat)} {i : Nat} (hi : i < n) : upA (closeM n ps) i = closed n ps i := by
  unfold upA closeM
  rw [List.getD_eq_getElem?_getD, List.getElem?_map, List.getElem?_range hi]; rfl
theorem withM_zero {i : Nat} (hi : i < 64) : withM 0#64 (i : Int) = one i := m_ext fun j hj => by
  rw [bit_withM, bit_one hi]
  by_cases h : j = i
  · subst h; simp [hj, bit]
  · have : ¬ ((j : Int) = (i : Int)) := by omega
    simp [h, this, bit]
theorem pairRow_nil {r : Nat} (hr : r < 64) : pairRow [] r = one r := m_ext fun j hj => by
  unfold pairRow
  rw [bit_ofP _ hj, bit_one hr]
  simp
theorem pairRow_snoc {ps : List (Nat × Nat)} {a b r : Nat} (hb : b < 64) : pairRow (ps ++ [(a, b)]) r = if r = a then withM (pairRow ps a) (b : Int) else pairRow ps r := by
  refine m_ext fun j hj => ?_
  unfold pairRow
  rw [bit_ofP _ hj]
  split
  · rename_i e
    subst e
    rw [bit_withM, bit_ofP _ hj]
    by_cases h : j = b
    · subst h; simp [hj]
    · have : ¬ ((j : Int) = (b : Int)) := by omega
      simp [h, this]
  · rename_i e
    rw [bit_ofP _ hj]
    simp [e]

theorem build_spec (n : Nat) (ps : List (Nat × Nat)) (h1 : 1 ≤ n) (h64 : n ≤ 64) (hps : ∀ p ∈ ps, p.1 < n ∧ p.2 < n) (hl : inI64 (ps.length : Int)) :
    Pure PG 38 [vi (n : Int), vPairs ps] (.tup [vU (if rightM (closeM n ps) then closeM n ps else []), vi (if rightM (closeM n ps) then 0 else 11)]) [] := by
  refine Proc.mk (cfg 99) tysOK [] Tryd.func38 rfl (by kernel_rfl) rfl rfl rfl ?_
  intro C x
  unfold inI64 at hl
  refine x.cond rfl trivial (fun h => ?_) (fun _ => ?_)
  · have h : (decide ((n : Int) < 1) || decide (64 < (n : Int))) = true := h
    simp only [Bool.or_eq_true, decide_eq_true_eq] at h
    omega
  refine x.loop (α := { i : Nat // i ≤ n }) (fun y => ⟨[(0, vi (n : Int)), (1, vPairs ps), (6, .own 0), (20, vi (n : Int)), (21, vi (y.1 : Int))], [(0, vecU n fun r => if r < y.1 then one r else 0#64)], 1⟩) (fun y => n - y.1) ⟨0, by omega⟩ rfl ?_ ?_ (fun y => ?_)
  · simp only [AllP, big, Int.toNat_natCast]; omega
  · refine ⟨⟨rfl, veq_d rfl, rfl, rfl, rfl, trivial⟩, ⟨⟨rfl, rfl, Int.toNat_natCast _, fun r hr => ?_⟩, trivial⟩, rfl⟩
    show [D.int .u64 0] = [dm (if r < 0 then one r else 0#64)]
    rw [if_neg (by omega)]; rfl
  obtain ⟨i, hi⟩ := y
  change Go C _ ⟨[(0, vi (n : Int)), (1, vPairs ps), (6, .own 0), (20, vi (n : Int)), (21, vi (i : Int))], [(0, vecU n fun r => if r < i then one r else 0#64)], 1⟩ _
  refine x.cond rfl trivial (fun h2 => ?_) (fun h2 => ?_)
  · have h2 : i < n := by have := of_decide_eq_true h2; omega
    refine x.pure rfl trivial rfl (with_spec 0#64 i) ⟨rfl, rfl, trivial⟩ ?_
    refine x.back rfl ?_ ⟨⟨i + 1, by omega⟩, by show n - (i + 1) < n - i; omega, ?_⟩
    · simp only [AllP, List.length, Int.toNat_natCast, inI64]; omega
    · refine ⟨⟨rfl, veq_d rfl, rfl, rfl, (show VEq0 (vi ((i : Int) + 1)) (vi ((i + 1 : Nat) : Int)) by rw [Int.natCast_add]; rfl), trivial⟩, ⟨⟨rfl, rfl, rfl, fun r hr => ?_⟩, trivial⟩, rfl⟩
      show put2 (fun r => [dm (if r < i then one r else 0#64)]) i 0 [dm (withM 0#64 (i : Int))] r = [dm (if r < i + 1 then one r else 0#64)]
      rw [put2_int, withM_zero (by omega)]
      show [D.int .u64 (if r = i then _ else _)] = _
      by_cases e : r = i
      · rw [if_pos e, if_pos (by omega), e]
      · rw [if_neg e]
        by_cases e2 : r < i
        · rw [if_pos e2, if_pos (by omega)]
        · rw [if_neg e2, if_neg (by omega)]
  have h2 : i = n := by have := of_decide_eq_false h2; omega
  subst h2
  refine x.loop (α := { j : Nat // j ≤ ps.length }) (fun y => ⟨[(0, vi (i : Int)), (6, .own 0), (30, vPairs ps), (31, vi (ps.length : Int)), (32, vi (y.1 : Int))], [(0, vecU i fun r => pairRow (ps.take y.1) r)], 1⟩) (fun y => ps.length - y.1) ⟨0, by omega⟩ rfl trivial ?_ (fun y => ?_)
  · refine ⟨⟨rfl, rfl, veq_d rfl, rfl, rfl, trivial⟩, ⟨⟨rfl, rfl, rfl, fun r hr => ?_⟩, trivial⟩, rfl⟩
    show [dm (if r < i then one r else 0#64)] = [dm (pairRow [] r)]
    rw [if_pos hr, pairRow_nil (by omega)]
  obtain ⟨j, hj⟩ := y
  change Go C _ ⟨[(0, vi (i : Int)), (6, .own 0), (30, vPairs ps), (31, vi (ps.length : Int)), (32, vi (j : Int))], [(0, vecU i fun r => pairRow (ps.take j) r)], 1⟩ _
  refine x.cond rfl trivial (fun h3 => ?_) (fun h3 => ?_)
  · have h3 : j < ps.length := by have := of_decide_eq_true h3; omega
    have hgD : ps.getD j (0, 0) = ps[j] := by rw [List.getD_eq_getElem?_getD, List.getElem?_eq_getElem h3]; rfl
    obtain ⟨p1, p2⟩ := hps _ (List.getElem_mem h3)
    have hq : ps.getD j (0, 0) ∈ ps := by rw [hgD]; exact List.getElem_mem h3
    obtain ⟨p1, p2⟩ := hps _ hq
    refine x.cond rfl ?_ (fun h => ?_) (fun _ => ?_)
    · simp only [AllP]
      exact ⟨by omega, by decide, by decide, fun _ => by decide, fun _ => by decide, fun _ => by decide, fun _ => by decide, fun _ => by decide, fun _ => by decide⟩
    · exfalso
      have h : (((decide (((ps.getD j (0, 0)).1 : Int) < 0) || decide ((i : Int) ≤ ((ps.getD j (0, 0)).1 : Int))) || decide (((ps.getD j (0, 0)).2 : Int) < 0)) || decide ((i : Int) ≤ ((ps.getD j (0, 0)).2 : Int))) = true := h
      simp only [Bool.or_eq_true, decide_eq_true_eq] at h
      omega
    refine x.plan [0, 3] [1, 2, 4, 5, 6, 7, 8, 9, 10, 11] [12] rfl trivial mixedP (by kernel_rfl) Ret.noPanic ?_
    refine x.qcall rfl ?_ rfl (with_spec (pairRow (ps.take j) (ps.getD j (0, 0)).1) (ps.getD j (0, 0)).2) rfl rfl ⟨rfl, rfl, trivial⟩ ?_
    · simp only [AllP, Int.toNat_natCast]
      exact ⟨by decide, by decide, by decide, by decide, ⟨by omega, by omega⟩, p1, by decide, by decide⟩
    refine x.qdone rfl (by simp only [AllP, Int.toNat_natCast]; omega) ?_
    refine x.back rfl ?_ ⟨⟨j + 1, by omega⟩, by show ps.length - (j + 1) < ps.length - j; omega, ?_⟩
    · simp only [AllP, List.length, Int.toNat_natCast, inI64]; omega
    · refine ⟨⟨rfl, rfl, veq_d rfl, rfl, (show VEq0 (vi ((j : Int) + 1)) (vi ((j + 1 : Nat) : Int)) by rw [Int.natCast_add]; rfl), trivial⟩, ⟨⟨rfl, rfl, rfl, fun r hr => ?_⟩, trivial⟩, rfl⟩
      show put2 (fun r => [dm (pairRow (ps.take j) r)]) (ps.getD j (0, 0)).1 0 [dm (withM (pairRow (ps.take j) (ps.getD j (0, 0)).1) ((ps.getD j (0, 0)).2 : Int))] r = [dm (pairRow (ps.take (j + 1)) r)]
      have e : ps.take (j + 1) = ps.take j ++ [((ps.getD j (0, 0)).1, (ps.getD j (0, 0)).2)] := by rw [take_succ (a := ps[j]) (List.getElem?_eq_getElem h3), hgD]
      rw [put2_int, e, pairRow_snoc (by omega)]
      show [D.int .u64 (if r = _ then _ else _)] = [dm (if r = _ then _ else _)]
      split <;> rfl
  have h3 : j = ps.length := by have := of_decide_eq_false h3; omega
  refine x.loop (α := { k : Nat // k ≤ i }) (fun y => ⟨[(0, vi (i : Int)), (6, .own 0), (69, vi (i : Int)), (70, vi (y.1 : Int))], [(0, vecU i fun r => wAll i (pairRow ps) y.1 r)], 1⟩) (fun y => i - y.1) ⟨0, by omega⟩ rfl trivial ?_ (fun y => ?_)
  · refine ⟨⟨rfl, rfl, rfl, rfl, trivial⟩, ⟨⟨rfl, rfl, rfl, fun r hr => ?_⟩, trivial⟩, rfl⟩
    show [dm (pairRow (ps.take j) r)] = [dm (pairRow ps r)]
    rw [h3, List.take_length]
  obtain ⟨k, hk⟩ := y
  change Go C _ ⟨[(0, vi (i : Int)), (6, .own 0), (69, vi (i : Int)), (70, vi (k : Int))], [(0, vecU i fun r => wAll i (pairRow ps) k r)], 1⟩ _
  refine x.cond rfl trivial (fun h4 => ?_) (fun h4 => ?_)
  · have h4 : k < i := by have := of_decide_eq_true h4; omega
    refine x.loop (α := { m : Nat // m ≤ i }) (fun y => ⟨[(0, vi (i : Int)), (6, .own 0), (10, vi (k : Int)), (69, vi (i : Int)), (70, vi (k : Int)), (73, vi (i : Int)), (74, vi (y.1 : Int))], [(0, vecU i fun r => wRow (wAll i (pairRow ps) k) k y.1 r)], 1⟩) (fun y => i - y.1) ⟨0, by omega⟩ rfl trivial ?_ (fun y => ?_)
    · exact ⟨⟨rfl, rfl, rfl, rfl, rfl, rfl, rfl, trivial⟩, ⟨⟨rfl, rfl, rfl, fun r hr => rfl⟩, trivial⟩, rfl⟩
    obtain ⟨m, hm⟩ := y
    change Go C _ ⟨[(0, vi (i : Int)), (6, .own 0), (10, vi (k : Int)), (69, vi (i : Int)), (70, vi (k : Int)), (73, vi (i : Int)), (74, vi (m : Int))], [(0, vecU i fun r => wRow (wAll i (pairRow ps) k) k m r)], 1⟩ _
    refine x.cond rfl trivial (fun h5 => ?_) (fun h5 => ?_)
    · have h5 : m < i := by have := of_decide_eq_true h5; omega
      refine x.pure rfl ?_ rfl (has_spec (wRow (wAll i (pairRow ps) k) k m m) k) ⟨rfl, rfl, trivial⟩ ?_
      · simp only [AllP]; omega
      refine x.cond rfl trivial (fun h6 => ?_) (fun h6 => ?_)
      · have h6 : hasM (wRow (wAll i (pairRow ps) k) k m m) (k : Int) = true := h6
        rw [hasM_nat] at h6
        refine x.plan [0, 1, 4, 5] [2, 3, 6, 7, 8, 9] [10] rfl trivial mixedP (by kernel_rfl) Ret.noPanic ?_
        refine x.qdone rfl (by simp only [AllP]; omega) ?_
        refine x.back rfl ?_ ⟨⟨m + 1, by omega⟩, by show i - (m + 1) < i - m; omega, ?_⟩
        · simp only [AllP, List.length, Int.toNat_natCast, inI64]; omega
        · refine ⟨⟨rfl, rfl, rfl, rfl, rfl, rfl, (show VEq0 (vi ((m : Int) + 1)) (vi ((m + 1 : Nat) : Int)) by rw [Int.natCast_add]; rfl), trivial⟩, ⟨⟨rfl, rfl, rfl, fun r hr => ?_⟩, trivial⟩, rfl⟩
          show put2 (fun r => [dm (wRow (wAll i (pairRow ps) k) k m r)]) m 0 [D.int .u64 (bitI .or .u64 ((wRow (wAll i (pairRow ps) k) k m m).toNat : Int) ((wRow (wAll i (pairRow ps) k) k m k).toNat : Int))] r = [dm (wStep (wRow (wAll i (pairRow ps) k) k m) k m r)]
          rw [put2_int, or_m, wStep, if_pos h6]
          show [D.int .u64 (if r = _ then _ else _)] = [dm (if r = _ then _ else _)]
          split <;> rfl
      · have h6 : hasM (wRow (wAll i (pairRow ps) k) k m m) (k : Int) = false := h6
        rw [hasM_nat] at h6
        refine x.back rfl ?_ ⟨⟨m + 1, by omega⟩, by show i - (m + 1) < i - m; omega, ?_⟩
        · simp only [AllP, inI64]; omega
        · refine ⟨⟨rfl, rfl, rfl, rfl, rfl, rfl, (show VEq0 (vi ((m : Int) + 1)) (vi ((m + 1 : Nat) : Int)) by rw [Int.natCast_add]; rfl), trivial⟩, ⟨⟨rfl, rfl, rfl, fun r hr => ?_⟩, trivial⟩, rfl⟩
          show [dm (wRow (wAll i (pairRow ps) k) k m r)] = [dm (wStep (wRow (wAll i (pairRow ps) k) k m) k m r)]
          rw [wStep, h6]
          split
          · rename_i e; rw [e]; rfl
          · rfl
    · have h5 : m = i := by have := of_decide_eq_false h5; omega
      refine x.back rfl ?_ ⟨⟨k + 1, by omega⟩, by show i - (k + 1) < i - k; omega, ?_⟩
      · simp only [AllP, inI64]; omega
      · refine ⟨⟨rfl, rfl, rfl, (show VEq0 (vi ((k : Int) + 1)) (vi ((k + 1 : Nat) : Int)) by rw [Int.natCast_add]; rfl), trivial⟩, ⟨⟨rfl, rfl, rfl, fun r hr => ?_⟩, trivial⟩, rfl⟩
        show [dm (wRow (wAll i (pairRow ps) k) k m r)] = [dm (wRow (wAll i (pairRow ps) k) k i r)]
        rw [h5]
  have h4 : k = i := by have := of_decide_eq_false h4; omega
  have hrow : ∀ r, r < i → [dm (wAll i (pairRow ps) k r)] = [dm (upA (closeM i ps) r)] := fun r hr => by rw [close_at hr, closed, h4]
  have hR : Pure PG 42 [.d (.sl 1 i fun r => [dm (wAll i (pairRow ps) k r)])] (vb (rightM (closeM i ps))) [] := by
    have h := right5_spec (closeM i ps) (by rw [close_len]; unfold inI64; omega)
    refine Pure.args (args := [vU (closeM i ps)]) h ⟨⟨(close_len i ps).symm, fun _ => rfl, fun r hr => hrow r hr⟩, trivial⟩ rfl
  refine x.call [0] rfl trivial rfl (Pure.borrow [vecU i fun r => wAll i (pairRow ps) k r] hR (args := [.own 0]) rfl rfl rfl) rfl ⟨rfl, trivial⟩ ⟨⟨rfl, rfl, rfl, fun _ _ => rfl⟩, trivial⟩ ?_
  refine x.cond rfl trivial (fun h7 => ?_) (fun h7 => ?_)
  · have h7 : (!rightM (closeM i ps)) = true := h7
    have h7 : rightM (closeM i ps) = false := by simpa using h7
    refine x.exit rfl trivial ⟨.inr rfl, ?_, trivial, rfl⟩
    rw [h7]
    exact ⟨rfl, rfl, trivial⟩
  · have h7 : (!rightM (closeM i ps)) = false := h7
    have h7 : rightM (closeM i ps) = true := by simpa using h7
    refine Sx.Go.freeze 0 ?_
    refine x.exit rfl trivial ⟨.inr rfl, ?_, trivial, rfl⟩
    rw [h7]
    refine ⟨⟨(close_len i ps).symm, fun _ => rfl, fun r hr => hrow r hr⟩, rfl, trivial⟩
end Go.Proofs.YtgnnglfbpcjadaaDoor

/- The text of a number: plain facts, and the answer's. -/
namespace Go.Proofs.YtgnnglfbpcjadaaDoor
open Go.Sx
set_option linter.unusedVariables false
set_option linter.unusedSimpArgs false
set_option maxRecDepth 100000

def digs (u : Nat) : List UInt8 := if u < 10 then [UInt8.ofNat (48 + u)] else digs (u / 10) ++ [UInt8.ofNat (48 + u % 10)]
termination_by u
decreasing_by omega
theorem digs_lt {u : Nat} (h : u < 10) : digs u = [UInt8.ofNat (48 + u)] := by rw [digs, if_pos h]
theorem digs_ge {u : Nat} (h : ¬ u < 10) : digs u = digs (u / 10) ++ [UInt8.ofNat (48 + u % 10)] := by rw [digs, if_neg h]

def digs0 (u : Nat) : List UInt8 := if u = 0 then [] else digs u
theorem digs0_app (u : Nat) : digs0 (u / 10) ++ [UInt8.ofNat (48 + u % 10)] = digs u := by
  by_cases h : u < 10
  · rw [digs_lt h, digs0, if_pos (by omega), Nat.mod_eq_of_lt h]; rfl
  · rw [digs_ge h, digs0, if_neg (by omega)]

def sgV (n : Int) : List UInt8 := if n < 0 then [45] else []
def showV (n : Int) : ByteArray := ba (sgV n ++ digs n.natAbs)

theorem digs_len : ∀ (k u : Nat), u < 10 ^ (k + 1) → (digs u).length ≤ k + 1
  | 0, u, h => by rw [digs_lt (by simpa using h)]; simp
  | k + 1, u, h => by
    by_cases hu : u < 10
    · rw [digs_lt hu]; simp
    · rw [digs_ge hu]
      have := digs_len k (u / 10) (by rw [Nat.pow_succ] at h; omega)
      simp; omega

theorem getD_map {α β : Type} (l : List α) (f : α → β) (d : α) (e : β) (i : Nat) (h : i < l.length) : (l.map f).getD i e = f (l.getD i d) := by
  simp [List.getD_eq_getElem?_getD, h]

def ten : ByteArray := ⟨#[48, 49, 50, 51, 52, 53, 54, 55, 56, 57]⟩
theorem ten_at (u : Nat) (h : u < 10) : ten.extract u (u + 1) = ba [UInt8.ofNat (48 + u)] := by
  have : ∀ u : Fin 10, ten.extract u.1 (u.1 + 1) = ba [UInt8.ofNat (48 + u.1)] := by decide +kernel
  exact this ⟨u, h⟩

structure HI (u0 : Nat) where
  u : Nat
  l : List UInt8
  same : digs u ++ l = digs u0
  le : u ≤ u0
  len : l.length ≤ 20


theorem min_text : (⟨#[45, 57, 50, 50, 51, 51, 55, 50, 48, 51, 54, 56, 53, 52, 55, 55, 53, 56, 48, 56]⟩ : ByteArray) = showV (-9223372036854775808) := by
  unfold showV sgV
  rw [if_pos (by omega), show Int.natAbs (-9223372036854775808) = 9223372036854775808 from rfl]
  repeat rw [digs_ge (by decide)]
  rw [digs_lt (by decide)]
  decide +kernel

end Go.Proofs.YtgnnglfbpcjadaaDoor

/- A number out of its text. -/
namespace Go.Proofs.YtgnnglfbpcjadaaDoor
open Go.Sx
set_option linter.unusedVariables false
set_option linter.unusedSimpArgs false
set_option maxRecDepth 100000

theorem hasPrefix_spec (s p : ByteArray) :
    Pure PG 94 [vs s, vs p] (vb (decide ((p.size : Int) ≤ s.size) && decide ((s.extract 0 p.size).data.toList = p.data.toList))) [] := by
  refine Proc.mk (cfg 18) tysOK [] Tryd.func94 rfl (by kernel_rfl) rfl rfl rfl ?_
  intro C x
  refine x.exit rfl ?_ ?_
  · intro h
    exact ⟨by omega, by simpa using h⟩
  refine ⟨.inr rfl, ?_, trivial, rfl⟩
  show _ = _
  rfl

def cutV (s p : ByteArray) : ByteArray × Bool := if (decide ((p.size : Int) ≤ s.size) && decide ((s.extract 0 p.size).data.toList = p.data.toList)) = true then (s.extract p.size s.size, true) else (s, false)

theorem cut1_spec (s p : ByteArray) : Pure PG 88 [vs s, vs p] (.tup [vs (cutV s p).1, vb (cutV s p).2]) [] := by
  refine Proc.mk (cfg 15) tysOK [] Tryd.func88 rfl (by kernel_rfl) rfl rfl rfl ?_
  intro C x
  refine x.pure rfl trivial rfl (hasPrefix_spec s p) ⟨rfl, rfl, trivial⟩ ?_
  refine x.cond rfl trivial (fun h => ?_) (fun h => ?_)
  · refine x.exit rfl trivial ?_
    refine ⟨.inr rfl, ?_, trivial, rfl⟩
    rw [cutV, if_neg (by simpa only [Bool.not_eq_true', Bool.not_eq_true] using h)]
    exact ⟨rfl, rfl, trivial⟩
  · have h' : (decide ((p.size : Int) ≤ s.size) && decide ((s.extract 0 p.size).data.toList = p.data.toList)) = true := by simpa using h
    refine x.exit rfl ?_ ?_
    · simp only [Bool.and_eq_true, decide_eq_true_eq] at h'
      simp only [AllP]
      omega
    refine ⟨.inr rfl, ?_, trivial, rfl⟩
    rw [cutV, if_pos h']
    exact ⟨rfl, rfl, trivial⟩

theorem cut_spec (s p : ByteArray) : Pure PG 72 [vs s, vs p] (.tup [vs (cutV s p).1, vb (cutV s p).2]) [] := by
  refine Proc.mk (cfg 11) tysOK [] Tryd.func72 rfl (by kernel_rfl) rfl rfl rfl ?_
  intro C x
  refine x.pure rfl trivial rfl (cut1_spec s p) ⟨rfl, rfl, trivial⟩ ?_
  refine x.exit rfl trivial ?_
  exact ⟨.inr rfl, ⟨rfl, rfl, trivial⟩, trivial, rfl⟩

/-- The number that the digits from byte i on make, behind u. -/
def dv (s : ByteArray) : Nat → Nat → Nat → Option Nat
  | 0, _, u => some u
  | n + 1, i, u => if i < s.size then if 48 ≤ bt s i ∧ bt s i ≤ 57 then dv s n (i + 1) (10 * u + (bt s i - 48)) else none else some u
theorem dv_end {s : ByteArray} {n i u : Nat} (h : ¬ i < s.size) : dv s n i u = some u := by
  cases n with
  | zero => rfl
  | succ n => rw [dv, if_neg h]

theorem dec_ascii {sz p a b c d : Nat} (h : a < 128) : dec sz p a b c d = (a, 1) := by rw [dec, if_pos h]
theorem dec_high {sz p a b c d : Nat} (h : ¬ a < 128) : 128 ≤ (dec sz p a b c d).1 := by
  unfold dec
  rw [if_neg h]
  split
  · split
    · rename_i h; exact h
    · simp
  split
  · split
    · rename_i h; exact Nat.le_trans (by omega) h.1
    · simp
  split
  · split
    · rename_i h; exact Nat.le_trans (by omega) h.1
    · simp
  · simp
theorem decode_ascii {s : ByteArray} {p : Nat} (h : bt s p < 128) : Utf8.decode s p = (bt s p, 1) := by rw [decode_eq]; exact dec_ascii h
theorem decode_high {s : ByteArray} {p : Nat} (h : ¬ bt s p < 128) : 128 ≤ (Utf8.decode s p).1 := by rw [decode_eq]; exact dec_high h

def numV (s : ByteArray) : Int × Bool :=
  let d := (cutV s ⟨#[45]⟩).1
  let neg := (cutV s ⟨#[45]⟩).2
  if d.size = 0 ∨ 19 < d.size ∨ (bt d 0 = 48 ∧ (neg = true ∨ 1 < d.size)) then (0, false)
  else match dv d d.size 0 0 with
    | none => (0, false)
    | some u => if neg = true ∧ u ≤ 9223372036854775808 then (-(u : Int), true) else if neg = false ∧ u < 9223372036854775808 then ((u : Int), true) else (0, false)

structure WI (s : ByteArray) where
  n : Nat
  p : Nat
  u : Nat
  fuel : s.size ≤ p + n
  same : dv s n p u = dv s s.size 0 0
  hp : p ≤ s.size
  hu : u < 10 ^ p

theorem number_spec (s : ByteArray) : Pure PG 51 [vs s] (.tup [vi (numV s).1, vb (numV s).2]) [] := by
  refine Proc.mk ⟨66, 0, false, tys⟩ tysOK [] Tryd.func51 rfl (by kernel_rfl) rfl rfl rfl ?_
  intro C x
  refine x.pure rfl trivial rfl (cut_spec s ⟨#[45]⟩) ⟨rfl, rfl, trivial⟩ ?_
  generalize hd : (cutV s ⟨#[45]⟩).1 = d
  generalize hng : (cutV s ⟨#[45]⟩).2 = ng
  have hnil : d.data.toList = (⟨#[]⟩ : ByteArray).data.toList ↔ d.size = 0 := by
    rw [show d.size = d.data.toList.length from (Array.length_toList).symm, List.length_eq_zero_iff]
  have hsb : sb d (Int.toNat 0) = (bt d 0 : Int) := sb_bt d 0
  have hcond : (decide (d.data.toList = (⟨#[]⟩ : ByteArray).data.toList) || decide ((19 : Int) < d.size) || decide (sb d (Int.toNat 0) = 48) && (ng || decide ((1 : Int) < d.size))) = decide (d.size = 0 ∨ 19 < d.size ∨ (bt d 0 = 48 ∧ (ng = true ∨ 1 < d.size))) := by
    rw [Bool.eq_iff_iff]
    simp only [Bool.or_eq_true, Bool.and_eq_true, decide_eq_true_eq, hnil, hsb]
    cases ng <;> simp only [Bool.false_eq_true, false_or, true_or, and_true] <;> omega
  refine x.cond rfl ?_ (fun h => ?_) (fun h => ?_)
  · intro h
    simp only [Bool.or_eq_false_iff, decide_eq_false_iff_not] at h
    have : ¬ d.size = 0 := fun e => h.1 (hnil.2 e)
    omega
  · refine x.exit rfl trivial ?_
    refine ⟨.inr rfl, ?_, trivial, rfl⟩
    have : d.size = 0 ∨ 19 < d.size ∨ (bt d 0 = 48 ∧ (ng = true ∨ 1 < d.size)) := by
      rw [hcond] at h
      simpa only [decide_eq_true_eq] using h
    simp only [numV, hd, hng]
    rw [if_pos this]
    exact ⟨rfl, rfl, trivial⟩
  have hno : ¬ (d.size = 0 ∨ 19 < d.size ∨ (bt d 0 = 48 ∧ (ng = true ∨ 1 < d.size))) := by
    rw [hcond] at h
    simpa only [decide_eq_false_iff_not] using h
  have hsz : d.size ≤ 19 := by omega
  refine x.loop (α := WI d) (fun y => ⟨[(5, vb ng), (6, .d (.int .u64 (y.u : Int))), (35, .ptr 0 0)], [(0, .iter d y.p)], 1⟩) (fun y => d.size + 4 - y.p) ⟨d.size, 0, 0, by omega, rfl, by omega, by simp⟩ rfl trivial ?_ (fun y => ?_)
  · exact ⟨⟨rfl, rfl, ⟨rfl, rfl⟩, trivial⟩, ⟨⟨rfl, rfl⟩, trivial⟩, rfl⟩
  obtain ⟨n, p, u, fuel, same, hp, hu⟩ := y
  change Go C _ ⟨[(5, vb ng), (6, .d (.int .u64 (u : Int))), (35, .ptr 0 0)], [(0, .iter d p)], 1⟩ _
  refine x.next rfl trivial rfl rfl rfl (fun h => ?_) (fun h => ?_)
  · refine x.cond rfl trivial (fun _ => ?_) (fun h1 => by cases h1)
    refine x.pure rfl trivial rfl (digit_spec _) ⟨rfl, trivial⟩ ?_
    cases n with
    | zero => omega
    | succ n =>
      rw [dv, if_pos h] at same
      refine x.cond rfl trivial (fun h2 => ?_) (fun h2 => ?_)
      · have hnd : ¬ (48 ≤ bt d p ∧ bt d p ≤ 57) := fun hh => by
          rw [decode_ascii (by omega)] at h2
          simp at h2
          omega
        rw [if_neg hnd] at same
        refine x.exit rfl trivial ?_
        refine ⟨.inr rfl, ?_, trivial, rfl⟩
        simp only [numV, hd, hng]
        rw [if_neg hno, ← same]
        exact ⟨rfl, rfl, trivial⟩
      · have hdg : 48 ≤ bt d p ∧ bt d p ≤ 57 := by
          by_cases ha : bt d p < 128
          · rw [decode_ascii ha] at h2
            simp at h2
            omega
          · have := decode_high ha
            simp at h2
            omega
        rw [if_pos hdg] at same
        have hdec := decode_ascii (s := d) (p := p) (by omega)
        have hpow : 10 ^ (p + 1) ≤ 10 ^ 19 := Nat.pow_le_pow_right (by omega) (by omega)
        have hu' : 10 * u + (bt d p - 48) < 10 ^ (p + 1) := by rw [Nat.pow_succ]; omega
        refine x.back rfl trivial ?_
        refine ⟨⟨n, p + (Utf8.decode d p).2, 10 * u + (bt d p - 48), by rw [hdec]; omega, by rw [hdec]; exact same, by rw [hdec]; show p + 1 ≤ _; omega, by rw [hdec]; exact hu'⟩, by show d.size + 4 - (p + (Utf8.decode d p).2) < d.size + 4 - p; rw [hdec]; show d.size + 4 - (p + 1) < d.size + 4 - p; omega, ?_⟩
        refine ⟨⟨rfl, ?_, ⟨rfl, rfl⟩, trivial⟩, ⟨⟨rfl, rfl⟩, trivial⟩, rfl⟩
        show IntKind.u64.wrap (IntKind.u64.wrap (10 * (u : Int)) + IntKind.u64.wrap (IntKind.i32.wrap (((Utf8.decode d p).1 : Int) - 48))) = ((10 * u + (bt d p - 48) : Nat) : Int)
        rw [hdec, IntKind.wrap_u64, IntKind.wrap_u64, IntKind.wrap_u64, IntKind.wrap_i32]
        omega
  · refine x.cond rfl trivial (fun h1 => by cases h1) (fun _ => ?_)
    rw [dv_end h] at same
    have hpow : 10 ^ p ≤ 10 ^ 19 := Nat.pow_le_pow_right (by omega) (by omega)
    have hres : numV s = if ng = true ∧ u ≤ 9223372036854775808 then (-(u : Int), true) else if ng = false ∧ u < 9223372036854775808 then ((u : Int), true) else (0, false) := by
      simp only [numV, hd, hng]
      rw [if_neg hno, ← same]
    rw [hres]
    refine x.cond rfl trivial (fun h1 => ?_) (fun h1 => ?_)
    · simp only [Bool.and_eq_true, decide_eq_true_eq] at h1
      refine x.exit rfl trivial ?_
      refine ⟨.inr rfl, ?_, trivial, rfl⟩
      rw [if_pos ⟨h1.1, by omega⟩]
      refine ⟨?_, rfl, trivial⟩
      show IntKind.i64.wrap (IntKind.u64.wrap (0 - (u : Int))) = -(u : Int)
      rw [IntKind.wrap_i64, IntKind.wrap_u64]
      omega
    · rw [if_neg (by rintro ⟨rfl, hh⟩; simp at h1; omega)]
      refine x.cond rfl trivial (fun h2 => ?_) (fun h2 => ?_)
      · simp only [Bool.and_eq_true, Bool.not_eq_true', decide_eq_true_eq] at h2
        refine x.exit rfl trivial ?_
        refine ⟨.inr rfl, ?_, trivial, rfl⟩
        rw [if_pos ⟨h2.1, by omega⟩]
        refine ⟨?_, rfl, trivial⟩
        show IntKind.i64.wrap (u : Int) = (u : Int)
        rw [IntKind.wrap_i64]
        omega
      · refine x.exit rfl trivial ?_
        refine ⟨.inr rfl, ?_, trivial, rfl⟩
        rw [if_neg (by rintro ⟨rfl, hh⟩; simp at h2; omega)]
        exact ⟨rfl, rfl, trivial⟩
end Go.Proofs.YtgnnglfbpcjadaaDoor

/- Policies: the program's own: what lines of a first word do. -/
namespace Go.Proofs.YtgnnglfbpcjadaaDoor
open Go.Sx
set_option linter.unusedVariables false
set_option linter.unusedSimpArgs false
set_option maxRecDepth 100000

theorem app_gen6 {α : Type} (d : α → List D) (N : Nat) (hd : ∀ a, (d a).length = N) (x0 : α) (xs : List α) (x : α) (j : Nat) (hj : j < xs.length + 1) : app xs.length (fun i => d (xs.getD i x0)) (fun _ => d x) j = d ((xs ++ [x]).getD j x0) := by
  unfold app
  show zipIte (j < xs.length) (d (xs.getD j x0)) (d x) = _
  by_cases h : j < xs.length
  · rw [zipIte_pos h, List.getD_eq_getElem?_getD, List.getD_eq_getElem?_getD, List.getElem?_append_left h]
  · have e : j = xs.length := by omega
    rw [zipIte_neg h, List.getD_eq_getElem?_getD (l := xs ++ [x]), List.getElem?_append_right (by omega), e, Nat.sub_self]
    rfl

/-- What has been read so far. -/
structure Rdr where
  lev : List ByteArray
  ins : List Chan
  outs : List Chan
  depth : Int
  flows : List (Nat × Nat)
abbrev vecS (l : List ByteArray) : Ch := .vec 9 1 l.length fun i => [.str (l.getD i .empty)]
abbrev vecC (l : List Chan) : Ch := .vec 54 2 l.length fun i => [.str (l.getD i chan0).1, .int .i64 (l.getD i chan0).2]
abbrev vecP (l : List (Nat × Nat)) : Ch := .vec 110 2 l.length fun i => [.int .i64 ((l.getD i (0, 0)).1 : Int), .int .i64 ((l.getD i (0, 0)).2 : Int)]
abbrev rdBox (k : Int) : Ch := .box [.own 1, .nils, .own 2, .own 3, vi k, .own 4]
abbrev rdH (r : Rdr) : List Ch := [rdBox r.depth, vecS r.lev, vecC r.ins, vecC r.outs, vecP r.flows]
/-- Bounds that are kept. -/
structure Small (r : Rdr) : Prop where
  lev : r.lev.length ≤ 64
  ins : r.ins.length ≤ 32
  outs : r.outs.length ≤ 32
  flows : r.flows.length ≤ 100000
  depth : inI64 r.depth
theorem Small.i64 {r : Rdr} (h : Small r) : inI64 (r.lev.length : Int) ∧ inI64 (r.ins.length : Int) ∧ inI64 (r.outs.length : Int) ∧ inI64 (r.flows.length : Int) := by
  have h1 := h.lev
  have h2 := h.ins
  have h3 := h.outs
  have h4 := h.flows
  unfold inI64; omega

def w_ (w : List ByteArray) (k : Nat) : ByteArray := w.getD k .empty
theorem retQ {ops : Array Oper} {g : Cfg} {rs : List ResultVar} {ids : List Nat} {r : V} {H' : List Ch} : QuietP ops (Ret g rs ids r H') := RetO.quiet (o := .ret r H')

theorem rdSame {k : Int} : ChEq (rdBox k) ((rdBox k).map (ren0 [0, 1, 2, 3, 4])) := ⟨rfl, trivial, rfl, rfl, rfl, rfl, trivial⟩
theorem same_ {e : TypeId} {sz n : Nat} {f : Nat → List D} {is : List Nat} : ChEq (.vec e sz n f) ((Ch.vec e sz n f).map (ren0 is)) := ⟨rfl, rfl, rfl, fun _ _ => rfl⟩
/-- A level more. -/
def levelR (r : Rdr) (w : List ByteArray) : Rdr × Int :=
  if 0 ≤ idxS r.lev (w_ w 0) then (r, 9) else if r.lev.length = 64 then (r, 3) else ({ r with lev := r.lev ++ [w_ w 0] }, 0)
theorem rlevel_spec (r : Rdr) (w : List ByteArray) (hr : Small r) (hw : 1 ≤ w.length) : Proc PG 67 1 [.ptr 0 0, vSs w] (rdH r) (vi (levelR r w).2) (rdH (levelR r w).1) := by
  obtain ⟨i1, i2, i3, i4⟩ := hr.i64
  refine Proc.mk (cfgF 40 1) tysOK [0, 1, 2, 3, 4] Tryd.func67 rfl (by kernel_rfl) rfl rfl (by
    simp only [levelR]; split <;> (try split) <;> rfl) ?_
  intro C x
  refine x.quiet rfl trivial mixedP (by kernel_rfl) ?_
  refine x.qcallB rfl ?_ rfl (level_spec r.lev (w_ w 0) i1) rfl rfl ⟨⟨veq0_d rfl, rfl, rfl, rfl, rfl, trivial⟩, rfl, trivial⟩ ?_
  · simp only [AllP]; omega
  refine x.qdone rfl trivial ?_
  refine x.cond rfl trivial (fun h1 => ?_) (fun h1 => ?_)
  · have h1 : 0 ≤ idxS r.lev (w_ w 0) := of_decide_eq_true h1
    refine x.exit rfl trivial ?_
    rw [levelR, if_pos h1]
    exact ⟨.inr rfl, rfl, ⟨rdSame, same_, same_, same_, same_, trivial⟩, rfl⟩
  have h1 : ¬ 0 ≤ idxS r.lev (w_ w 0) := of_decide_eq_false h1
  refine x.cond rfl trivial (fun h2 => ?_) (fun h2 => ?_)
  · have h2 : r.lev.length = 64 := by have := of_decide_eq_true h2; omega
    refine x.exit rfl trivial ?_
    rw [levelR, if_neg h1, if_pos h2]
    exact ⟨.inr rfl, rfl, ⟨rdSame, same_, same_, same_, same_, trivial⟩, rfl⟩
  have h2 : ¬ r.lev.length = 64 := by have := of_decide_eq_false h2; omega
  refine x.draw [] [0, 1, 6] [2, 3, 4, 5] [7, 8, 9] [10, 11, 12, 13, 14] rfl trivial mixedP (by kernel_rfl) retQ rfl trivial (fun C1 x1 => ?_)
  refine x1.back rfl ?_ ?_
  · simp only [AllP]; omega
  refine x1.back rfl trivial ?_
  refine x1.back rfl trivial ?_
  have hlev := hr.lev
  refine x.exit rfl (by simp only [AllP, big]; omega) ?_
  rw [levelR, if_neg h1, if_neg h2]
  exact ⟨.inr rfl, rfl, ⟨rdSame, ⟨rfl, rfl, by simp, fun j hj => app_gen6 (fun t => [D.str t]) 1 (fun _ => rfl) .empty r.lev (w_ w 0) j hj⟩, same_, same_, same_, trivial⟩, rfl⟩

/-- A flow more. -/
def flowR (r : Rdr) (w : List ByteArray) : Rdr × Int :=
  if 0 ≤ idxS r.lev (w_ w 0) ∧ 0 ≤ idxS r.lev (w_ w 1) then ({ r with flows := r.flows ++ [((idxS r.lev (w_ w 0)).toNat, (idxS r.lev (w_ w 1)).toNat)] }, 0) else (r, 10)
theorem foundN {k : Int} (h : 0 ≤ k) : (if 0 > k then 0 else k) = ((k.toNat : Nat) : Int) := by rw [if_neg (by omega)]; omega
theorem rflow_spec (r : Rdr) (w : List ByteArray) (hr : Small r) (hw : 2 ≤ w.length) : Proc PG 68 1 [.ptr 0 0, vSs w] (rdH r) (vi (flowR r w).2) (rdH (flowR r w).1) := by
  obtain ⟨i1, i2, i3, i4⟩ := hr.i64
  refine Proc.mk (cfgF 49 1) tysOK [0, 1, 2, 3, 4] Tryd.func68 rfl (by kernel_rfl) rfl rfl (by
    simp only [flowR]; split <;> rfl) ?_
  intro C x
  refine x.quiet rfl trivial mixedP (by kernel_rfl) ?_
  refine x.qcallB rfl ?_ rfl (level_spec r.lev (w_ w 0) i1) rfl rfl ⟨⟨veq0_d rfl, rfl, rfl, rfl, rfl, trivial⟩, rfl, trivial⟩ ?_
  · simp only [AllP]; omega
  refine x.qdone rfl trivial ?_
  refine x.quiet rfl trivial mixedP (by kernel_rfl) ?_
  refine x.qcallB rfl ?_ rfl (level_spec r.lev (w_ w 1) i1) rfl rfl ⟨⟨veq0_d rfl, rfl, rfl, rfl, rfl, trivial⟩, rfl, trivial⟩ ?_
  · simp only [AllP]; omega
  refine x.qdone rfl trivial ?_
  refine x.cond rfl trivial (fun h1 => ?_) (fun h1 => ?_)
  · have h1 : (!decide (0 ≤ idxS r.lev (w_ w 0)) || !decide (0 ≤ idxS r.lev (w_ w 1))) = true := h1
    have h1 : ¬ (0 ≤ idxS r.lev (w_ w 0) ∧ 0 ≤ idxS r.lev (w_ w 1)) := fun ⟨a, b⟩ => by rw [decide_eq_true a, decide_eq_true b] at h1; cases h1
    refine x.exit rfl trivial ?_
    rw [flowR, if_neg h1]
    exact ⟨.inr rfl, rfl, ⟨rdSame, same_, same_, same_, same_, trivial⟩, rfl⟩
  have h1 : (!decide (0 ≤ idxS r.lev (w_ w 0)) || !decide (0 ≤ idxS r.lev (w_ w 1))) = false := h1
  simp only [Bool.or_eq_false_iff, Bool.not_eq_false', decide_eq_true_eq] at h1
  have hfl := hr.flows
  refine x.exit rfl (by simp only [AllP, big]; omega) ?_
  rw [flowR, if_pos h1]
  refine ⟨.inr rfl, rfl, ⟨rdSame, same_, same_, same_, ⟨rfl, rfl, by simp, fun j hj => ?_⟩, trivial⟩, rfl⟩
  have := app_gen6 (fun t : Nat × Nat => [D.int .i64 (t.1 : Int), D.int .i64 (t.2 : Int)]) 2 (fun _ => rfl) (0, 0) r.flows ((idxS r.lev (w_ w 0)).toNat, (idxS r.lev (w_ w 1)).toNat) j hj
  refine Eq.trans ?_ this
  show app _ _ (fun _ => [D.int .i64 (if 0 > idxS r.lev (w_ w 0) then 0 else idxS r.lev (w_ w 0)), D.int .i64 (if 0 > idxS r.lev (w_ w 1) then 0 else idxS r.lev (w_ w 1))]) j = _
  rw [foundN h1.1, foundN h1.2]

/-- A channel more in a list. -/
def chanE (lev : List ByteArray) (l : List Chan) (w : List ByteArray) : Int :=
  if 0 ≤ idxC l (w_ w 0) then 9 else if ¬ 0 ≤ idxS lev (w_ w 1) then 10 else if l.length = 32 then 3 else 0
def chanL (lev : List ByteArray) (l : List Chan) (w : List ByteArray) : List Chan := if chanE lev l w = 0 then l ++ [(w_ w 0, idxS lev (w_ w 1))] else l

theorem rchanI_spec (r : Rdr) (w : List ByteArray) (hr : Small r) (hw : 2 ≤ w.length) : Proc PG 87 1 [.ptr 0 0, .ptr 0 2, vSs w] (rdH r) (vi (chanE r.lev r.ins w)) (rdH { r with ins := chanL r.lev r.ins w }) := by
  obtain ⟨i1, i2, i3, i4⟩ := hr.i64
  refine Proc.mk (cfgF 52 1) tysOK [0, 1, 2, 3, 4] Tryd.func87 rfl (by kernel_rfl) rfl rfl rfl ?_
  intro C x
  refine x.quiet rfl trivial mixedP (by kernel_rfl) ?_
  refine x.qcallB rfl ?_ rfl (findC_spec r.ins (w_ w 0) i2) rfl rfl ⟨veq_d rfl, rfl, rfl, trivial⟩ ?_
  · simp only [AllP]; omega
  refine x.qdone rfl trivial ?_
  refine x.cond rfl trivial (fun h1 => ?_) (fun h1 => ?_)
  · have h1 : 0 ≤ idxC r.ins (w_ w 0) := of_decide_eq_true h1
    refine x.exit rfl trivial ?_
    rw [chanL, chanE, if_pos h1, if_neg (by decide)]
    exact ⟨.inr rfl, rfl, ⟨rdSame, same_, same_, same_, same_, trivial⟩, rfl⟩
  have h1 : ¬ 0 ≤ idxC r.ins (w_ w 0) := of_decide_eq_false h1
  refine x.quiet rfl trivial mixedP (by kernel_rfl) ?_
  refine x.qcallB rfl ?_ rfl (level_spec r.lev (w_ w 1) i1) rfl rfl ⟨⟨veq0_d rfl, rfl, rfl, rfl, rfl, trivial⟩, rfl, trivial⟩ ?_
  · simp only [AllP]; omega
  refine x.qdone rfl trivial ?_
  refine x.cond rfl trivial (fun h2 => ?_) (fun h2 => ?_)
  · have h2 : (!decide (0 ≤ idxS r.lev (w_ w 1))) = true := h2
    have h2 : ¬ 0 ≤ idxS r.lev (w_ w 1) := fun a => by rw [decide_eq_true a] at h2; cases h2
    refine x.exit rfl trivial ?_
    rw [chanL, chanE, if_neg h1, if_pos h2, if_neg (by decide)]
    exact ⟨.inr rfl, rfl, ⟨rdSame, same_, same_, same_, same_, trivial⟩, rfl⟩
  have h2 : (!decide (0 ≤ idxS r.lev (w_ w 1))) = false := h2
  have h2 : 0 ≤ idxS r.lev (w_ w 1) := by simpa using h2
  refine x.cond rfl trivial (fun h3 => ?_) (fun h3 => ?_)
  · have h3 : r.ins.length = 32 := by have := of_decide_eq_true h3; omega
    refine x.exit rfl trivial ?_
    rw [chanL, chanE, if_neg h1, if_neg (fun h => h h2), if_pos h3, if_neg (by decide)]
    exact ⟨.inr rfl, rfl, ⟨rdSame, same_, same_, same_, same_, trivial⟩, rfl⟩
  have h3 : ¬ r.ins.length = 32 := by have := of_decide_eq_false h3; omega
  have hlen := hr.ins
  refine x.draw [] [0, 1, 4, 7] [2, 3] [5, 6, 8, 9] [10, 11, 12] rfl trivial mixedP (by kernel_rfl) retQ rfl trivial (fun C1 x1 => ?_)
  refine x1.back rfl ?_ ?_
  · simp only [AllP]; omega
  refine x1.back rfl trivial ?_
  refine x1.back rfl trivial ?_
  refine x1.back rfl trivial ?_
  refine x.exit rfl (by simp only [AllP, big]; omega) ?_
  rw [chanL, chanE, if_neg h1, if_neg (fun h => h h2), if_neg h3, if_pos rfl]
  refine ⟨.inr rfl, rfl, ⟨rdSame, same_, ⟨rfl, rfl, by simp, fun j hj => ?_⟩, same_, same_, trivial⟩, rfl⟩
  have := app_gen6 (fun t : Chan => [D.str t.1, D.int .i64 t.2]) 2 (fun _ => rfl) chan0 r.ins (w_ w 0, idxS r.lev (w_ w 1)) j hj
  refine Eq.trans ?_ this
  show app _ _ (fun _ => [D.str (w_ w 0), D.int .i64 (if 0 > idxS r.lev (w_ w 1) then 0 else idxS r.lev (w_ w 1))]) j = _
  rw [if_neg (by omega)]
theorem rinput_spec (r : Rdr) (w : List ByteArray) (hr : Small r) (hw : 2 ≤ w.length) : Proc PG 69 1 [.ptr 0 0, vSs w] (rdH r) (vi (chanE r.lev r.ins w)) (rdH { r with ins := chanL r.lev r.ins w }) := by
  refine Proc.mk (cfgF 12 1) tysOK [0, 1, 2, 3, 4] Tryd.func69 rfl (by kernel_rfl) rfl rfl rfl ?_
  intro C x
  refine x.call [0, 1, 2, 3, 4] rfl trivial rfl (rchanI_spec r w hr hw) rfl ⟨⟨rfl, rfl⟩, ⟨rfl, rfl⟩, veq_d rfl, trivial⟩ ⟨rdSame, same_, same_, same_, same_, trivial⟩ ?_
  exact x.exit rfl trivial ⟨.inr rfl, rfl, ⟨rdSame, same_, same_, same_, same_, trivial⟩, rfl⟩

theorem rchanO_spec (r : Rdr) (w : List ByteArray) (hr : Small r) (hw : 2 ≤ w.length) : Proc PG 87 1 [.ptr 0 0, .ptr 0 3, vSs w] (rdH r) (vi (chanE r.lev r.outs w)) (rdH { r with outs := chanL r.lev r.outs w }) := by
  obtain ⟨i1, i2, i3, i4⟩ := hr.i64
  refine Proc.mk (cfgF 52 1) tysOK [0, 1, 2, 3, 4] Tryd.func87 rfl (by kernel_rfl) rfl rfl rfl ?_
  intro C x
  refine x.quiet rfl trivial mixedP (by kernel_rfl) ?_
  refine x.qcallB rfl ?_ rfl (findC_spec r.outs (w_ w 0) i3) rfl rfl ⟨veq_d rfl, rfl, rfl, trivial⟩ ?_
  · simp only [AllP]; omega
  refine x.qdone rfl trivial ?_
  refine x.cond rfl trivial (fun h1 => ?_) (fun h1 => ?_)
  · have h1 : 0 ≤ idxC r.outs (w_ w 0) := of_decide_eq_true h1
    refine x.exit rfl trivial ?_
    rw [chanL, chanE, if_pos h1, if_neg (by decide)]
    exact ⟨.inr rfl, rfl, ⟨rdSame, same_, same_, same_, same_, trivial⟩, rfl⟩
  have h1 : ¬ 0 ≤ idxC r.outs (w_ w 0) := of_decide_eq_false h1
  refine x.quiet rfl trivial mixedP (by kernel_rfl) ?_
  refine x.qcallB rfl ?_ rfl (level_spec r.lev (w_ w 1) i1) rfl rfl ⟨⟨veq0_d rfl, rfl, rfl, rfl, rfl, trivial⟩, rfl, trivial⟩ ?_
  · simp only [AllP]; omega
  refine x.qdone rfl trivial ?_
  refine x.cond rfl trivial (fun h2 => ?_) (fun h2 => ?_)
  · have h2 : (!decide (0 ≤ idxS r.lev (w_ w 1))) = true := h2
    have h2 : ¬ 0 ≤ idxS r.lev (w_ w 1) := fun a => by rw [decide_eq_true a] at h2; cases h2
    refine x.exit rfl trivial ?_
    rw [chanL, chanE, if_neg h1, if_pos h2, if_neg (by decide)]
    exact ⟨.inr rfl, rfl, ⟨rdSame, same_, same_, same_, same_, trivial⟩, rfl⟩
  have h2 : (!decide (0 ≤ idxS r.lev (w_ w 1))) = false := h2
  have h2 : 0 ≤ idxS r.lev (w_ w 1) := by simpa using h2
  refine x.cond rfl trivial (fun h3 => ?_) (fun h3 => ?_)
  · have h3 : r.outs.length = 32 := by have := of_decide_eq_true h3; omega
    refine x.exit rfl trivial ?_
    rw [chanL, chanE, if_neg h1, if_neg (fun h => h h2), if_pos h3, if_neg (by decide)]
    exact ⟨.inr rfl, rfl, ⟨rdSame, same_, same_, same_, same_, trivial⟩, rfl⟩
  have h3 : ¬ r.outs.length = 32 := by have := of_decide_eq_false h3; omega
  have hlen := hr.outs
  refine x.draw [] [0, 1, 4, 7] [2, 3] [5, 6, 8, 9] [10, 11, 12] rfl trivial mixedP (by kernel_rfl) retQ rfl trivial (fun C1 x1 => ?_)
  refine x1.back rfl ?_ ?_
  · simp only [AllP]; omega
  refine x1.back rfl trivial ?_
  refine x1.back rfl trivial ?_
  refine x1.back rfl trivial ?_
  refine x.exit rfl (by simp only [AllP, big]; omega) ?_
  rw [chanL, chanE, if_neg h1, if_neg (fun h => h h2), if_neg h3, if_pos rfl]
  refine ⟨.inr rfl, rfl, ⟨rdSame, same_, same_, ⟨rfl, rfl, by simp, fun j hj => ?_⟩, same_, trivial⟩, rfl⟩
  have := app_gen6 (fun t : Chan => [D.str t.1, D.int .i64 t.2]) 2 (fun _ => rfl) chan0 r.outs (w_ w 0, idxS r.lev (w_ w 1)) j hj
  refine Eq.trans ?_ this
  show app _ _ (fun _ => [D.str (w_ w 0), D.int .i64 (if 0 > idxS r.lev (w_ w 1) then 0 else idxS r.lev (w_ w 1))]) j = _
  rw [if_neg (by omega)]
theorem routput_spec (r : Rdr) (w : List ByteArray) (hr : Small r) (hw : 2 ≤ w.length) : Proc PG 70 1 [.ptr 0 0, vSs w] (rdH r) (vi (chanE r.lev r.outs w)) (rdH { r with outs := chanL r.lev r.outs w }) := by
  refine Proc.mk (cfgF 12 1) tysOK [0, 1, 2, 3, 4] Tryd.func70 rfl (by kernel_rfl) rfl rfl rfl ?_
  intro C x
  refine x.call [0, 1, 2, 3, 4] rfl trivial rfl (rchanO_spec r w hr hw) rfl ⟨⟨rfl, rfl⟩, ⟨rfl, rfl⟩, veq_d rfl, trivial⟩ ⟨rdSame, same_, same_, same_, same_, trivial⟩ ?_
  exact x.exit rfl trivial ⟨.inr rfl, rfl, ⟨rdSame, same_, same_, same_, same_, trivial⟩, rfl⟩

/-- How deep. -/
def depthR (r : Rdr) (w : List ByteArray) : Rdr × Int :=
  if 0 < r.depth then (r, 9) else if (numV (w_ w 0)).1 < 1 ∨ 64 < (numV (w_ w 0)).1 then (r, 12) else ({ r with depth := (numV (w_ w 0)).1 }, 0)
theorem rdepth_spec (r : Rdr) (w : List ByteArray) (hr : Small r) (hw : 1 ≤ w.length) : Proc PG 71 1 [.ptr 0 0, vSs w] (rdH r) (vi (depthR r w).2) (rdH (depthR r w).1) := by
  refine Proc.mk (cfgF 31 1) tysOK [0, 1, 2, 3, 4] Tryd.func71 rfl (by kernel_rfl) rfl rfl (by
    simp only [depthR]; split <;> (try split) <;> rfl) ?_
  intro C x
  refine x.cond rfl trivial (fun h1 => ?_) (fun h1 => ?_)
  · have h1 : 0 < r.depth := of_decide_eq_true h1
    refine x.exit rfl trivial ?_
    rw [depthR, if_pos h1]
    exact ⟨.inr rfl, rfl, ⟨rdSame, same_, same_, same_, same_, trivial⟩, rfl⟩
  have h1 : ¬ 0 < r.depth := of_decide_eq_false h1
  refine x.pure rfl ?_ rfl (number_spec (w_ w 0)) ⟨rfl, trivial⟩ ?_
  · simp only [AllP]; omega
  refine x.cond rfl trivial (fun h2 => ?_) (fun h2 => ?_)
  · have h2 : (decide ((numV (w_ w 0)).1 < 1) || decide (64 < (numV (w_ w 0)).1)) = true := h2
    simp only [Bool.or_eq_true, decide_eq_true_eq] at h2
    refine x.exit rfl trivial ?_
    rw [depthR, if_neg h1, if_pos h2]
    exact ⟨.inr rfl, rfl, ⟨rdSame, same_, same_, same_, same_, trivial⟩, rfl⟩
  · have h2 : (decide ((numV (w_ w 0)).1 < 1) || decide (64 < (numV (w_ w 0)).1)) = false := h2
    have h2 : ¬ ((numV (w_ w 0)).1 < 1 ∨ 64 < (numV (w_ w 0)).1) := by
      simp only [Bool.or_eq_false_iff, decide_eq_false_iff_not] at h2
      omega
    refine x.exit rfl trivial ?_
    rw [depthR, if_neg h1, if_neg h2]
    exact ⟨.inr rfl, rfl, ⟨rdSame, same_, same_, same_, same_, trivial⟩, rfl⟩
end Go.Proofs.YtgnnglfbpcjadaaDoor

/- Policies: the program's own: a line is read. -/
namespace Go.Proofs.YtgnnglfbpcjadaaDoor
open Go.Sx
set_option linter.unusedVariables false
set_option linter.unusedSimpArgs false
set_option maxRecDepth 100000

def wLevel : List UInt8 := [108, 101, 118, 101, 108]
def wFlow : List UInt8 := [102, 108, 111, 119]
def wInput : List UInt8 := [105, 110, 112, 117, 116]
def wOutput : List UInt8 := [111, 117, 116, 112, 117, 116]
def wDepth : List UInt8 := [100, 101, 112, 116, 104]
abbrev kdV (f : Nat) (n : Int) : V := .agg [.fn f [], vi n]
def kindsT : List (Key × V) := [(.inl [108, 101, 118, 101, 108], kdV 67 1), (.inl [102, 108, 111, 119], kdV 68 2), (.inl [105, 110, 112, 117, 116], kdV 69 2), (.inl [111, 117, 116, 112, 117, 116], kdV 70 2), (.inl [100, 101, 112, 116, 104], kdV 71 1)]
theorem kinds_spec : Pure PG 50 [] (.own 0) [.tbl kindsT] := by
  refine Proc.mk (cfg 8) tysOK [0] Tryd.func50 rfl (by kernel_rfl) rfl rfl rfl ?_
  intro C x
  refine x.exit rfl ?_ ?_
  · simp only [AllP, newKey]
    decide
  · exact ⟨.inr rfl, rfl, ⟨⟨rfl, rfl, rfl, rfl, rfl, rfl, rfl, rfl, rfl, rfl, trivial⟩, trivial⟩, rfl⟩

/-- Is a word what its line asks? -/
def okW (w0 s : ByteArray) : Bool := !((decide (w0.data.toList = wDepth) && !(numV s).2) || (!decide (w0.data.toList = wDepth) && !nameB s))

set_option maxHeartbeats 2000000 in
theorem read_none (r : Rdr) (w : List ByteArray) (hw : 1 ≤ w.length) (hk : tblAt (.inl (w_ w 0).data.toList) kindsT = none) : Proc PG 36 1 [.ptr 0 0, vSs w] (rdH r) (vi 8) (rdH r) := by
  refine Proc.mk (cfgF 64 1) tysOK [0, 1, 2, 3, 4] Tryd.func36 rfl (by kernel_rfl) rfl rfl rfl ?_
  intro C x
  refine x.every2 [] [1, 2, 3] (.fork 0 (.fork 4 (.fork 5 (.fork 6 .leaf .no) .no) (.fork 5 (.fork 4 (.fork 6 .leaf .no) .no) .no)) (.fork 5 (.fork 0 (.fork 4 (.fork 6 .leaf .no) .no) .no) .no))
    ⟨[(0, .ptr 0 0), (1, vSs w), (5, .ptr 6 0)], [(6, .box [.d .nf, vi 0])], 7⟩ rfl trivial mixedP (by kernel_rfl) Ret.noPanic rfl ?_ (fun C2 x2 => ?_) ?_
  · simp only [AllP]; omega
  · repeat' first
        | exact True.intro
        | refine And.intro ?_ ?_
        | refine x2.back rfl trivial ?_
        | refine x2.call [] rfl trivial rfl kinds_spec rfl trivial trivial (x2.back rfl trivial ?_)
        | refine x2.look rfl trivial rfl (lkNone hk ?_)
        | exact .inl ⟨⟨⟨rfl, rfl⟩, veq_d rfl, ⟨rfl, rfl⟩, trivial⟩, ⟨⟨trivial, rfl, trivial⟩, trivial⟩, rfl⟩
        | exact .inr ⟨[0, 1, 2, 3, 4, 6, 5], rfl, ⟨⟨rfl, rfl⟩, veq_d rfl, ⟨rfl, rfl⟩, trivial⟩, ⟨⟨trivial, rfl, trivial⟩, trivial⟩, rfl⟩
  refine x.cond rfl (by simp only [AllP]; intro h; cases h) (fun h1 => ?_) (fun h1 => by cases h1)
  exact x.exit rfl trivial ⟨.inr rfl, rfl, ⟨rdSame, same_, same_, same_, same_, trivial⟩, rfl⟩

def allW (w : List ByteArray) : Bool := w.tail.all (okW (w_ w 0))
theorem tail_get (w : List ByteArray) (i : Nat) : w.getD (i + 1) .empty = w.tail.getD i .empty := by
  cases w <;> simp
theorem dq_tail (w : List ByteArray) : VEq (.d (.sl 1 ((w.length : Int).toNat - Int.toNat 1) fun k => (fun i => [D.str (w.getD i .empty)]) (Int.toNat 1 + k))) (vSs w.tail) :=
  ⟨by rw [List.length_tail, Int.toNat_natCast]; rfl, fun _ => rfl, fun i _ => by
    show [D.str (w.getD (1 + i) .empty)] = [D.str (w.tail.getD i .empty)]
    rw [Nat.add_comm, tail_get]⟩
set_option maxHeartbeats 4000000 in
theorem read_some (r r' : Rdr) (e : Int) (w : List ByteArray) (hw : 1 ≤ w.length) (hwl : inI64 (w.length : Int)) (hsz : ∀ s ∈ w, s.size ≤ 9223372036854775807) (f : Nat) (n : Int) (hn : 1 ≤ n ∧ n ≤ 2) (hk : tblAt (.inl (w_ w 0).data.toList) kindsT = some (kdV f n))
    (hdo : ((w.length : Int) = n + 1 ∧ allW w = true) → Proc PG f 1 [.ptr 0 0, vSs w.tail] (rdH r) (vi e) (rdH r')) :
    Proc PG 36 1 [.ptr 0 0, vSs w] (rdH r) (vi (if (w.length : Int) = n + 1 ∧ allW w = true then e else 8)) (rdH (if (w.length : Int) = n + 1 ∧ allW w = true then r' else r)) := by
  refine Proc.mk (cfgF 64 1) tysOK [0, 1, 2, 3, 4] Tryd.func36 rfl (by kernel_rfl) rfl rfl (by split <;> rfl) ?_
  intro C x
  unfold inI64 at hwl
  refine x.every2 [] [1, 2, 3] (.fork 0 (.fork 4 (.fork 5 (.fork 6 .leaf .no) .no) (.fork 5 (.fork 4 (.fork 6 .leaf .no) .no) .no)) (.fork 5 (.fork 0 (.fork 4 (.fork 6 .leaf .no) .no) .no) .no))
    ⟨[(0, .ptr 0 0), (1, vSs w), (5, .ptr 6 0)], [(6, .box [.fn f [], vi n])], 7⟩ rfl trivial mixedP (by kernel_rfl) Ret.noPanic rfl ?_ (fun C2 x2 => ?_) ?_
  · simp only [AllP]; omega
  · repeat' first
        | exact True.intro
        | refine And.intro ?_ ?_
        | refine x2.back rfl trivial ?_
        | refine x2.call [] rfl trivial rfl kinds_spec rfl trivial trivial (x2.back rfl trivial ?_)
        | refine x2.look rfl trivial rfl (lkSome hk ?_)
        | exact .inl ⟨⟨⟨rfl, rfl⟩, veq_d rfl, ⟨rfl, rfl⟩, trivial⟩, ⟨⟨rfl, rfl, trivial⟩, trivial⟩, rfl⟩
        | exact .inr ⟨[0, 1, 2, 3, 4, 6, 5], rfl, ⟨⟨rfl, rfl⟩, veq_d rfl, ⟨rfl, rfl⟩, trivial⟩, ⟨⟨rfl, rfl, trivial⟩, trivial⟩, rfl⟩
  refine x.cond rfl (by simp only [AllP, inI64]; intro _; omega) (fun h1 => ?_) (fun h1 => ?_)
  · have h1 : (false || !decide ((w.length : Int) = n + 1)) = true := h1
    have h1 : ¬ (w.length : Int) = n + 1 := by simpa using h1
    rw [if_neg (fun h => h1 h.1), if_neg (fun h => h1 h.1)]
    exact x.exit rfl trivial ⟨.inr rfl, rfl, ⟨rdSame, same_, same_, same_, same_, trivial⟩, rfl⟩
  have h1 : (false || !decide ((w.length : Int) = n + 1)) = false := h1
  have h1 : (w.length : Int) = n + 1 := by simpa using h1
  have htl : w.tail.length = w.length - 1 := List.length_tail
  refine x.loop (α := { i : Nat // i ≤ w.tail.length ∧ ∀ j, j < i → okW (w_ w 0) (w.tail.getD j .empty) = true }) (fun y => ⟨[(0, .ptr 0 0), (1, vSs w), (5, .ptr 6 0), (27, vSs w.tail), (28, vi (w.tail.length : Int)), (29, vi (y.1 : Int))], [(0, rdBox r.depth), (1, vecS r.lev), (2, vecC r.ins), (3, vecC r.outs), (4, vecP r.flows), (6, .box [.fn f [], vi n])], 7⟩) (fun y => w.tail.length - y.1) ⟨0, by omega, fun j hj => by omega⟩ rfl ?_ ?_ (fun y => ?_)
  · simp only [AllP]; omega
  · refine ⟨⟨⟨rfl, rfl⟩, veq_d rfl, ⟨rfl, rfl⟩, dq_tail w, (show VEq0 (vi (((w.length : Int).toNat - Int.toNat 1 : Nat) : Int)) (vi (w.tail.length : Int)) by rw [List.length_tail, Int.toNat_natCast]; rfl), rfl, trivial⟩, ⟨⟨rfl, trivial, rfl, rfl, rfl, rfl, trivial⟩, ⟨rfl, rfl, rfl, fun _ _ => rfl⟩, ⟨rfl, rfl, rfl, fun _ _ => rfl⟩, ⟨rfl, rfl, rfl, fun _ _ => rfl⟩, ⟨rfl, rfl, rfl, fun _ _ => rfl⟩, ⟨rfl, rfl, trivial⟩, trivial⟩, rfl⟩
  obtain ⟨i, hi, hok⟩ := y
  change Go C _ ⟨[(0, .ptr 0 0), (1, vSs w), (5, .ptr 6 0), (27, vSs w.tail), (28, vi (w.tail.length : Int)), (29, vi (i : Int))], [(0, rdBox r.depth), (1, vecS r.lev), (2, vecC r.ins), (3, vecC r.outs), (4, vecP r.flows), (6, .box [.fn f [], vi n])], 7⟩ _
  refine x.cond rfl trivial (fun h2 => ?_) (fun h2 => ?_)
  · have h2 : i < w.tail.length := by have := of_decide_eq_true h2; omega
    have hmem : w.tail.getD i .empty ∈ w := by
      rw [List.getD_eq_getElem?_getD, List.getElem?_eq_getElem h2]
      exact List.mem_of_mem_tail (List.getElem_mem h2)
    refine x.pure rfl ?_ rfl (number_spec (w.tail.getD i .empty)) ⟨rfl, trivial⟩ ?_
    · simp only [AllP]; omega
    refine x.pureG rfl ?_ rfl (fun _ _ => name6_spec (w.tail.getD i .empty) (hsz _ hmem)) rfl ⟨rfl, trivial⟩ ?_
    · simp only [AllP]
      exact ⟨by omega, fun _ => by omega⟩
    refine x.cond rfl trivial (fun h3 => ?_) (fun h3 => ?_)
    · have h3 : ((decide ((w_ w 0).data.toList = wDepth) && !(numV (w.tail.getD i .empty)).2) || (!decide ((w_ w 0).data.toList = wDepth) && !nameB (w.tail.getD i .empty))) = true := h3
      have hno : ¬ ((w.length : Int) = n + 1 ∧ allW w = true) := fun ⟨_, h⟩ => by
        have := List.all_eq_true.1 h _ (show w.tail.getD i .empty ∈ w.tail by rw [List.getD_eq_getElem?_getD, List.getElem?_eq_getElem h2]; exact List.getElem_mem h2)
        rw [okW, h3] at this
        cases this
      rw [if_neg hno, if_neg hno]
      exact x.exit rfl trivial ⟨.inr rfl, rfl, ⟨rdSame, same_, same_, same_, same_, trivial⟩, rfl⟩
    · have h3 : ((decide ((w_ w 0).data.toList = wDepth) && !(numV (w.tail.getD i .empty)).2) || (!decide ((w_ w 0).data.toList = wDepth) && !nameB (w.tail.getD i .empty))) = false := h3
      refine x.back rfl ?_ ⟨⟨i + 1, by omega, fun j hj => ?_⟩, by show w.tail.length - (i + 1) < w.tail.length - i; omega, ⟨⟨rfl, rfl⟩, veq_d rfl, ⟨rfl, rfl⟩, veq_d rfl, rfl, (show VEq0 (vi ((i : Int) + 1)) (vi ((i + 1 : Nat) : Int)) by rw [Int.natCast_add]; rfl), trivial⟩, ⟨⟨rfl, trivial, rfl, rfl, rfl, rfl, trivial⟩, ⟨rfl, rfl, rfl, fun _ _ => rfl⟩, ⟨rfl, rfl, rfl, fun _ _ => rfl⟩, ⟨rfl, rfl, rfl, fun _ _ => rfl⟩, ⟨rfl, rfl, rfl, fun _ _ => rfl⟩, ⟨rfl, rfl, trivial⟩, trivial⟩, rfl⟩
      · simp only [AllP, inI64]; omega
      · by_cases e : j = i
        · rw [e, okW, h3]; rfl
        · exact hok j (by omega)
  · have h2 : i = w.tail.length := by have := of_decide_eq_false h2; omega
    have hall : allW w = true := by
      unfold allW
      rw [List.all_eq_true]
      intro s hs
      obtain ⟨k, hk, rfl⟩ := List.getElem_of_mem hs
      have := hok k (by omega)
      rwa [List.getD_eq_getElem?_getD, List.getElem?_eq_getElem hk] at this
    rw [if_pos ⟨h1, hall⟩, if_pos ⟨h1, hall⟩]
    refine x.plan [2, 3] [0, 1, 4] [5, 6] rfl trivial mixedP (by kernel_rfl) Ret.noPanic ?_
    refine x.qdone rfl ?_ ?_
    · simp only [AllP]; omega
    refine x.call [0, 1, 2, 3, 4] rfl trivial rfl (hdo ⟨h1, hall⟩) rfl ⟨⟨rfl, rfl⟩, dq_tail w, trivial⟩ ⟨rdSame, same_, same_, same_, same_, trivial⟩ ?_
    exact x.exit rfl trivial ⟨.inr rfl, rfl, ⟨rdSame, same_, same_, same_, same_, trivial⟩, rfl⟩
end Go.Proofs.YtgnnglfbpcjadaaDoor

/- Policies: the program's own: a line is read: all first words; what is kept; the library's pieces. -/
namespace Go.Proofs.YtgnnglfbpcjadaaDoor
open Go.Sx
set_option linter.unusedVariables false
set_option linter.unusedSimpArgs false
set_option maxRecDepth 100000

def pickR (r : Rdr) (w : List ByteArray) (n : Nat) (d : Rdr × Int) : Rdr × Int := if w.length = n + 1 ∧ allW w = true then d else (r, 8)
/-- A line's words. -/
def readR (r : Rdr) (w : List ByteArray) : Rdr × Int :=
  if (w_ w 0).data.toList = wLevel then pickR r w 1 (levelR r w.tail)
  else if (w_ w 0).data.toList = wFlow then pickR r w 2 (flowR r w.tail)
  else if (w_ w 0).data.toList = wInput then pickR r w 2 ({ r with ins := chanL r.lev r.ins w.tail }, chanE r.lev r.ins w.tail)
  else if (w_ w 0).data.toList = wOutput then pickR r w 2 ({ r with outs := chanL r.lev r.outs w.tail }, chanE r.lev r.outs w.tail)
  else if (w_ w 0).data.toList = wDepth then pickR r w 1 (depthR r w.tail)
  else (r, 8)
theorem kindsT_at (k : List UInt8) : tblAt (.inl k) kindsT =
    if k = wLevel then some (kdV 67 1) else if k = wFlow then some (kdV 68 2) else if k = wInput then some (kdV 69 2) else if k = wOutput then some (kdV 70 2) else if k = wDepth then some (kdV 71 1) else none := by
  unfold kindsT
  simp only [tblAt, keyEq, wLevel, wFlow, wInput, wOutput, wDepth]
  by_cases h1 : k = [108, 101, 118, 101, 108]
  · simp [h1]
  by_cases h2 : k = [102, 108, 111, 119]
  · simp [h2]
  by_cases h3 : k = [105, 110, 112, 117, 116]
  · simp [h3]
  by_cases h4 : k = [111, 117, 116, 112, 117, 116]
  · simp [h4]
  by_cases h5 : k = [100, 101, 112, 116, 104]
  · simp [h5]
  simp [h1, h2, h3, h4, h5]
theorem pick_of {r : Rdr} {w : List ByteArray} {n : Nat} {d : Rdr × Int} {f : Nat}
    (h : Proc PG f 1 [.ptr 0 0, vSs w] (rdH r) (vi (if (w.length : Int) = (n : Int) + 1 ∧ allW w = true then d.2 else 8)) (rdH (if (w.length : Int) = (n : Int) + 1 ∧ allW w = true then d.1 else r))) :
    Proc PG f 1 [.ptr 0 0, vSs w] (rdH r) (vi (pickR r w n d).2) (rdH (pickR r w n d).1) := by
  unfold pickR
  have e : ((w.length : Int) = (n : Int) + 1 ∧ allW w = true) ↔ (w.length = n + 1 ∧ allW w = true) := by
    constructor
    · rintro ⟨a, b⟩; exact ⟨by omega, b⟩
    · rintro ⟨a, b⟩; exact ⟨by omega, b⟩
  by_cases hc : w.length = n + 1 ∧ allW w = true
  · rw [if_pos (e.2 hc), if_pos (e.2 hc)] at h
    rw [if_pos hc]; exact h
  · rw [if_neg (fun x => hc (e.1 x)), if_neg (fun x => hc (e.1 x))] at h
    rw [if_neg hc]; exact h
theorem read_spec (r : Rdr) (hr : Small r) (w : List ByteArray) (hw : 1 ≤ w.length) (hwl : inI64 (w.length : Int)) (hsz : ∀ s ∈ w, s.size ≤ 9223372036854775807) : Proc PG 36 1 [.ptr 0 0, vSs w] (rdH r) (vi (readR r w).2) (rdH (readR r w).1) := by
  have htl : w.tail.length = w.length - 1 := List.length_tail
  have hk := kindsT_at (w_ w 0).data.toList
  unfold readR
  by_cases e1 : (w_ w 0).data.toList = wLevel
  · rw [if_pos e1] at hk ⊢
    exact pick_of (read_some r (levelR r w.tail).1 (levelR r w.tail).2 w hw hwl hsz _ _ (by omega) hk fun hc => rlevel_spec r w.tail hr (by omega))
  rw [if_neg e1] at hk ⊢
  by_cases e2 : (w_ w 0).data.toList = wFlow
  · rw [if_pos e2] at hk ⊢
    exact pick_of (read_some r (flowR r w.tail).1 (flowR r w.tail).2 w hw hwl hsz _ _ (by omega) hk fun hc => rflow_spec r w.tail hr (by omega))
  rw [if_neg e2] at hk ⊢
  by_cases e3 : (w_ w 0).data.toList = wInput
  · rw [if_pos e3] at hk ⊢
    exact pick_of (read_some r { r with ins := chanL r.lev r.ins w.tail } (chanE r.lev r.ins w.tail) w hw hwl hsz _ _ (by omega) hk fun hc => rinput_spec r w.tail hr (by omega))
  rw [if_neg e3] at hk ⊢
  by_cases e4 : (w_ w 0).data.toList = wOutput
  · rw [if_pos e4] at hk ⊢
    exact pick_of (read_some r { r with outs := chanL r.lev r.outs w.tail } (chanE r.lev r.outs w.tail) w hw hwl hsz _ _ (by omega) hk fun hc => routput_spec r w.tail hr (by omega))
  rw [if_neg e4] at hk ⊢
  by_cases e5 : (w_ w 0).data.toList = wDepth
  · rw [if_pos e5] at hk ⊢
    exact pick_of (read_some r (depthR r w.tail).1 (depthR r w.tail).2 w hw hwl hsz _ _ (by omega) hk fun hc => rdepth_spec r w.tail hr (by omega))
  rw [if_neg e5] at hk ⊢
  exact read_none r w hw hk

/-- What is kept: bounds, and that flows are between levels. -/
structure Kept (r : Rdr) (n : Nat) : Prop extends Small r where
  count : r.flows.length ≤ n
  flow : ∀ p ∈ r.flows, p.1 < r.lev.length ∧ p.2 < r.lev.length
theorem idxS_lt {l : List ByteArray} {s : ByteArray} (h : 0 ≤ idxS l s) : (idxS l s).toNat < l.length := by
  unfold idxS at *
  rcases idxF_range (p := fun i => decide ((l.getD i .empty).data.toList = s.data.toList)) (n := l.length) (i := 0) with e | e <;> omega
theorem kept_read {r : Rdr} {n : Nat} (h : Kept r n) (hn : n < 100000) (w : List ByteArray) : Kept (readR r w).1 (n + 1) := by
  obtain ⟨⟨h1, h2, h3, h4, h5⟩, h6, h7⟩ := h
  have same : Kept r (n + 1) := ⟨⟨h1, h2, h3, h4, h5⟩, by omega, h7⟩
  have pick : ∀ {k d}, Kept d.1 (n + 1) → Kept (pickR r w k d).1 (n + 1) := fun {k d} hd => by
    unfold pickR; split
    · exact hd
    · exact same
  have chan : ∀ l : List Chan, l.length ≤ 32 → (chanL r.lev l w.tail).length ≤ 32 := fun l hl => by
    unfold chanL
    split
    · rename_i h0
      unfold chanE at h0
      split at h0
      · omega
      · split at h0
        · omega
        · split at h0
          · omega
          · simp; omega
    · exact hl
  unfold readR
  split
  · refine pick ?_
    unfold levelR
    split
    · exact same
    · split
      · exact same
      · refine ⟨⟨by simp; omega, h2, h3, h4, h5⟩, Nat.le_succ_of_le h6, fun p hp => ?_⟩
        have := h7 p hp
        simp; omega
  split
  · refine pick ?_
    unfold flowR
    split
    · rename_i hc
      refine ⟨⟨h1, h2, h3, by simp; omega, h5⟩, by simp; omega, fun p hp => ?_⟩
      rcases List.mem_append.1 hp with hp | hp
      · exact h7 p hp
      · rw [List.mem_singleton.1 hp]
        exact ⟨idxS_lt hc.1, idxS_lt hc.2⟩
    · exact same
  split
  · exact pick ⟨⟨h1, chan _ h2, h3, h4, h5⟩, Nat.le_succ_of_le h6, h7⟩
  split
  · exact pick ⟨⟨h1, h2, chan _ h3, h4, h5⟩, Nat.le_succ_of_le h6, h7⟩
  split
  · refine pick ?_
    unfold depthR
    split
    · exact same
    · split
      · exact same
      · rename_i hd
        exact ⟨⟨h1, h2, h3, h4, by unfold inI64; show -9223372036854775808 ≤ (numV _).1 ∧ (numV _).1 ≤ _; omega⟩, Nat.le_succ_of_le h6, h7⟩
  · exact same

theorem blank_spec (c : Int) : Pure PG 35 [.d (.int .i32 c)] (vb (decide (c = 32) || decide (c = 9))) [] := by
  refine Proc.mk (cfg 9) tysOK [] Tryd.func35 rfl (by kernel_rfl) rfl rfl rfl ?_
  intro C x
  exact x.exit rfl trivial ⟨.inr rfl, rfl, trivial, rfl⟩

def nl : ByteArray := ⟨#[10]⟩
def linesL (s : ByteArray) : List ByteArray := Lib.splitB nl 0 (Lib.countB s nl) s
theorem maxLen_of {F : Nat → Prop} {w : World} (h : EnvOK PG.env F w) : ∃ m, w.cell? ⟨0, 0, none⟩ = some (.int .i64 m) :=
  (h 0 0 (fun _ => undef) (by unfold PG; simp)).2.2 rfl
theorem lines_len (s : ByteArray) : (linesL s).length = Lib.countB s nl + 1 := Lib.splitB_all nl (by decide) 0 _ s rfl
theorem split_spec (s : ByteArray) (hs : s.size < 4294967281) : Pure PG 33 [vs s, vs nl] (vSs (linesL s)) [] := by
  refine Pure.ofLibD (vals := [.string s, .string nl]) (callable_of Tryd.func33 (by kernel_rfl) (by kernel_rfl)) rfl rfl rfl fun w F hE => ?_
  obtain ⟨m, hm⟩ := maxLen_of hE
  refine (Tryd.strings_Split s nl m w hs hm (by decide)).mono ?_
  rintro e w' ⟨rfl, rfl⟩
  refine ⟨_, rfl, (Go.RowKit.Below.refl _ w).alloc (Nat.le_refl _) _, ?_⟩
  rw [← lines_len]
  have hnew : (w.alloc (.cells ((linesL s).map Value.string).toArray 9)).heap[w.heap.size]? = some (.cells ((linesL s).map Value.string).toArray 9) := World.alloc_heap_new w _
  refine .sl 1 _ _ w.heap.size 0 _ (fun i _ => .string ((linesL s).getD i .empty)) ⟨Nat.le_refl _, by simp⟩ (Nat.le_refl _) (fun i j hi hj => ?_) (fun _ _ => rfl) (fun i j d hi hd => ?_)
  · unfold World.cell?
    show (match (w.alloc (.cells ((linesL s).map Value.string).toArray 9)).heap[w.heap.size]? with | some (.cells c _ _) => _ | _ => _) = _
    rw [hnew]
    obtain rfl : j = 0 := by omega
    simp [List.getElem?_eq_getElem hi, List.getD_eq_getElem?_getD]
  · cases j with
    | zero => simp at hd; subst hd; exact .str _
    | succ j => simp at hd
theorem index_spec (s sub : ByteArray) (hs : s.size < 4294967281) : Pure PG 37 [vs s, vs sub] (vi (Lib.index s.data.toList sub.data.toList)) [] := by
  refine Pure.ofLib (vals := [.string s, .string sub]) (callable_of Tryd.func37 (by kernel_rfl) (by kernel_rfl)) rfl rfl rfl rfl fun w F hE => ?_
  obtain ⟨m, hm⟩ := maxLen_of hE
  refine (Tryd.strings_Index s sub m w hs hm).mono ?_
  rintro e w' ⟨rfl, rfl⟩
  exact ⟨rfl, Go.RowKit.Below.refl _ _⟩
end Go.Proofs.YtgnnglfbpcjadaaDoor

/- Policies: the program's own: the words of a line. -/
namespace Go.Proofs.YtgnnglfbpcjadaaDoor
open Go.Sx
set_option linter.unusedVariables false
set_option linter.unusedSimpArgs false
set_option maxRecDepth 100000

def ren229 : Go.Shelf.Ren := ⟨fun | 229 => 34 | n => n, fun | 0 => 0 | 3 => 3 | 4 => 4 | 9 => 9 | 21 => 21 | 31 => 22 | 40 => 80 | 152 => 99 | 154 => 101 | n => n, fun | n => n⟩
theorem lays229 : Go.Proofs.Lays.n229 Tryd.prog ren229 := {
  mixed := by kernel_rfl
  f229 := Tryd.func34.trans (congrArg some (by kernel_rfl))
  t0 := Tryd.underlying0
  a0 := Tryd.isAgg0
  z0 := Tryd.sizeOf0
  v0 := Tryd.zeroValue0
  t3 := Tryd.underlying3
  a3 := Tryd.isAgg3
  z3 := Tryd.sizeOf3
  v3 := Tryd.zeroValue3
  t4 := Tryd.underlying4
  a4 := Tryd.isAgg4
  z4 := Tryd.sizeOf4
  v4 := Tryd.zeroValue4
  t9 := Tryd.underlying9
  a9 := Tryd.isAgg9
  z9 := Tryd.sizeOf9
  v9 := Tryd.zeroValue9
  t21 := Tryd.underlying21
  a21 := Tryd.isAgg21
  z21 := Tryd.sizeOf21
  v21 := Tryd.zeroValue21
  t31 := Tryd.underlying22
  a31 := Tryd.isAgg22
  z31 := Tryd.sizeOf22
  v31 := Tryd.zeroValue22
  t40 := Tryd.underlying80
  a40 := Tryd.isAgg80
  z40 := Tryd.sizeOf80
  v40 := Tryd.zeroValue80
  t152 := Tryd.underlying99
  a152 := Tryd.isAgg99
  z152 := Tryd.sizeOf99
  v152 := Tryd.zeroValue99
  t154 := Tryd.underlying101
  a154 := Tryd.isAgg101
  z154 := Tryd.sizeOf101
  v154 := Tryd.zeroValue101 }

def blankP (c : Nat) : Bool := decide ((c : Int) = 32) || decide ((c : Int) = 9)
/-- A line's words. -/
def fieldsL (s : ByteArray) : List ByteArray := Lib.goFieldsP blankP s
/-- Own words for a function value that is handed to the library. -/
theorem blank_grows (w : World) (F : Nat → Prop) (hF : ∀ k, F k → k < w.heap.size) (hE : EnvOK PG.env F w) : PredGrows Tryd.prog 35 #[] blankP w := by
  intro W x _ hb
  obtain ⟨_, _, _, _, _, hc⟩ := blank_spec (x : Int)
  have hE' : EnvOK PG.env F W := hE.mono (fun _ h => h) fun k hk => hb.block k (hF k hk)
  refine (hc W F (fun _ => .bool true) [.int .i32 (x : Int)] (fun k hk => Nat.lt_of_lt_of_le (hF k hk) hb.size) hE' ⟨fun i c hc => by simp at hc, fun i j b hi => absurd hi (Nat.not_lt_zero _), fun i b hi => absurd hi (Nat.not_lt_zero _)⟩ ⟨RD.int _ _, trivial⟩).mono ?_
  intro e w' hp
  refine ⟨?_, hp.below⟩
  obtain ⟨v, ρ', F', rfl, _, _, _, _, _, hr, _⟩ := hp
  cases (show RD F' w' (.bool _) v from hr)
  rfl
theorem fields_spec (s : ByteArray) (hs : s.size ≤ 4294967296) : Pure PG 34 [vs s, .fn 35 []] (vSs (fieldsL s)) [] := by
  refine ⟨callable_of Tryd.func34 (by kernel_rfl) (by kernel_rfl), rfl, rfl, Nat.le_refl _, Nat.le_refl _, fun w F ρ ys hF hE hH hargs => ?_⟩
  match ys, hargs with
  | [y1, y2], ⟨h1, ⟨cs, h2, hcs⟩, _⟩ =>
    cases (show RD F w (.str s) y1 from h1)
    have hcs0 : cs = [] := by cases cs with
      | nil => rfl
      | cons _ _ => exact hcs.elim
    subst hcs0
    subst h2
    have hcall : Callable Tryd.prog 35 := callable_of Tryd.func35 (by kernel_rfl) (by kernel_rfl)
    refine (Any.strings_FieldsFunc_grows lays229 35 #[] (fun args w => callFunc_run hcall args w) blankP s w hs (blank_grows w F hF hE) (by kernel_rfl) (by kernel_rfl)).mono ?_
    rintro e w' ⟨A, rfl, hA, hown, hb⟩
    have hAlt : 0 < (fieldsL s).length → A < w'.heap.size := fun h0 => by
      rcases hown.2 with ⟨h, _⟩ | ⟨g, cap, cur, h3, _, h4, _⟩
      · simp at h
      · simp only [Value.slice.injEq, Option.some.injEq, Addr.mk.injEq] at h3
        obtain ⟨⟨rfl, _⟩, _⟩ := h3
        exact (Array.getElem?_eq_some_iff.1 h4).1
    have hown0 : w'.ownsRow 0 9 1 (.slice (some ⟨A, 0, none⟩) (fieldsL s).length (fieldsL s).length) (fieldsL s).length ((fieldsL s).map Value.string) := by
      refine ⟨hown.1, ?_⟩
      rcases hown.2 with h | ⟨g, cap, cur, h3, _, h4⟩
      · exact .inl h
      · exact .inr ⟨g, cap, cur, h3, Nat.zero_le _, h4⟩
    obtain ⟨b1, b2, b3, b4, b5⟩ := hb
    by_cases h0 : 0 < (fieldsL s).length
    · refine ⟨_, ρ, fun k => F k ∨ (w.heap.size ≤ k ∧ k < w'.heap.size), rfl, ⟨b1, b2, b3, b4, fun k hk _ => b5 k hk⟩, fun _ _ => rfl, fun _ hk => .inl hk, fun k hk => ?_, fun k hk => ?_, vec_data (ρ := ρ) (F := F) (fun _ => .inl) (fun b hb => ?_) hown0 (fun i hi => ⟨rfl, fun j d hd => ?_⟩), ⟨fun i c hi => by simp at hi, fun i j b hi => absurd hi (Nat.not_lt_zero _), fun i b hi => absurd hi (Nat.not_lt_zero _)⟩, fun i b hi => absurd hi (Nat.not_lt_zero _)⟩
      · rcases hk with hk | hk
        · exact Nat.lt_of_lt_of_le (hF k hk) b4
        · exact hk.2
      · rcases hk with hk | hk
        · exact .inl hk
        · exact .inr (.inl hk.1)
      · simp only [blk, Option.some.injEq] at hb
        subst hb
        exact .inr ⟨hA, hAlt h0⟩
      · cases j with
        | succ j => simp at hd
        | zero =>
          simp only [List.getElem?_cons_zero, Option.some.injEq] at hd
          subst hd
          refine ⟨.string ((fieldsL s).getD i .empty), ?_, .str _⟩
          simp [List.getElem?_eq_getElem hi, List.getD_eq_getElem?_getD]
    · have h1 : (fieldsL s).length = 0 := by omega
      refine ⟨_, ρ, F, rfl, ⟨b1, b2, b3, b4, fun k hk _ => b5 k hk⟩, fun _ _ => rfl, fun _ hk => hk, fun k hk => Nat.lt_of_lt_of_le (hF k hk) b4, fun _ hk => .inl hk, ?_, ⟨fun i c hi => by simp at hi, fun i j b hi => absurd hi (Nat.not_lt_zero _), fun i b hi => absurd hi (Nat.not_lt_zero _)⟩, fun i b hi => absurd hi (Nat.not_lt_zero _)⟩
      show RD F w' (.sl 1 (fieldsL s).length _) (.slice _ (fieldsL s).length (fieldsL s).length)
      rw [h1]
      exact .emp _ _ _ _
  | [], h => exact h.elim
  | [_], h => exact h.2.elim
  | _ :: _ :: _ :: _, h => exact h.2.2.elim
end Go.Proofs.YtgnnglfbpcjadaaDoor

/- Policies: the program's own: Parse. -/
namespace Go.Proofs.YtgnnglfbpcjadaaDoor
open Go.Sx
set_option linter.unusedVariables false
set_option linter.unusedSimpArgs false
set_option maxRecDepth 100000

/-! ### how large words and lines are -/
theorem spans_ok (p : Nat → Bool) (s : ByteArray) : ∀ (n pos : Nat) (st : Option Nat) (acc : List (Nat × Nat)), (∀ x ∈ acc, x.1 < x.2 ∧ x.2 ≤ s.size) → (∀ a, st = some a → a < pos ∧ a < s.size) →
    (∀ x ∈ (Lib.spansFromP p s n pos st acc).1, x.1 < x.2 ∧ x.2 ≤ s.size) ∧ (∀ a, (Lib.spansFromP p s n pos st acc).2 = some a → a < s.size) ∧ (Lib.spansFromP p s n pos st acc).1.length ≤ acc.length + n
  | 0, pos, st, acc, h1, h2 => ⟨h1, fun a ha => (h2 a ha).2, Nat.le_refl _⟩
  | n + 1, pos, st, acc, h1, h2 => by
    rw [Lib.spansFromP.eq_def]
    simp only
    have hd := (decode_pos s pos).1
    split
    · rename_i hp
      split
      · cases st with
        | none =>
          obtain ⟨a, b, c⟩ := spans_ok p s n (pos + (Utf8.decode s pos).2) none acc h1 (fun a ha => by cases ha)
          exact ⟨a, b, Nat.le_trans c (by omega)⟩
        | some a0 =>
          obtain ⟨q1, q2⟩ := h2 a0 rfl
          obtain ⟨a, b, c⟩ := spans_ok p s n (pos + (Utf8.decode s pos).2) none (acc ++ [(a0, pos)]) (fun x hx => by
            rcases List.mem_append.1 hx with hx | hx
            · exact h1 x hx
            · rw [List.mem_singleton.1 hx]; exact ⟨q1, by show pos ≤ s.size; omega⟩) (fun a ha => by cases ha)
          exact ⟨a, b, Nat.le_trans c (by simp; omega)⟩
      · cases st with
        | none =>
          obtain ⟨a, b, c⟩ := spans_ok p s n (pos + (Utf8.decode s pos).2) (some pos) acc h1 (fun a ha => by cases ha; omega)
          exact ⟨a, b, Nat.le_trans c (by omega)⟩
        | some a0 =>
          obtain ⟨q1, q2⟩ := h2 a0 rfl
          obtain ⟨a, b, c⟩ := spans_ok p s n (pos + (Utf8.decode s pos).2) (some a0) acc h1 (fun a ha => by cases ha; omega)
          exact ⟨a, b, Nat.le_trans c (by omega)⟩
    · exact ⟨h1, fun a ha => (h2 a ha).2, Nat.le_add_right _ _⟩
theorem fields_ok (s : ByteArray) : (∀ f ∈ fieldsL s, 0 < f.size ∧ f.size ≤ s.size) ∧ (fieldsL s).length ≤ s.size + 1 := by
  unfold fieldsL Lib.goFieldsP Lib.spansOfP Lib.closeSpans
  obtain ⟨a, b, c⟩ := spans_ok blankP s s.size 0 none [] (fun x hx => by cases hx) (fun a ha => by cases ha)
  have ok : ∀ x : Nat × Nat, x.1 < x.2 ∧ x.2 ≤ s.size → 0 < (s.extract x.1 x.2).size ∧ (s.extract x.1 x.2).size ≤ s.size := fun x hx => by
    rw [ByteArray.size_extract]; omega
  split
  · rename_i q hq
    refine ⟨fun f hf => ?_, by simp at c ⊢; omega⟩
    obtain ⟨x, hx, rfl⟩ := List.mem_map.1 hf
    rcases List.mem_append.1 hx with hx | hx
    · exact ok x (a x hx)
    · rw [List.mem_singleton.1 hx]; exact ok _ ⟨b q hq, Nat.le_refl _⟩
  · refine ⟨fun f hf => ?_, by simp at c ⊢; omega⟩
    obtain ⟨x, hx, rfl⟩ := List.mem_map.1 hf
    exact ok x (a x hx)
theorem index_le : ∀ (l sub : List UInt8), Lib.index l sub ≤ (l.length : Int)
  | [], sub => by unfold Lib.index; split <;> decide
  | b :: l, sub => by
    have := index_le l sub
    unfold Lib.index
    split
    · simp; omega
    · split
      · simp; omega
      · simp; omega
theorem splitB_size (sep : ByteArray) : ∀ (k : Nat) (s : ByteArray), ∀ l ∈ Lib.splitB sep 0 k s, l.size ≤ s.size
  | 0, s, l, h => by simp [Lib.splitB] at h; rw [h]; exact Nat.le_refl _
  | k + 1, s, l, h => by
    unfold Lib.splitB at h
    split at h
    · simp at h; rw [h]; exact Nat.le_refl _
    · rcases List.mem_cons.1 h with rfl | h
      · rw [ByteArray.size_extract]; omega
      · have := splitB_size sep k _ l h
        rw [ByteArray.size_extract] at this; omega
theorem lines_ok (s : ByteArray) : (∀ l ∈ linesL s, l.size ≤ s.size) ∧ (linesL s).length ≤ s.size + 1 := by
  refine ⟨splitB_size nl _ s, ?_⟩
  rw [lines_len]
  have := Lib.countB_le nl (by decide) s.size s (Nat.le_refl _)
  omega

/-! ### what Parse computes -/
structure Pol where
  lev : List ByteArray
  up : List M64
  ins : List Chan
  outs : List Chan
  depth : Int
def pol0 : Pol := ⟨[], [], [], [], 0⟩
def rdr0 : Rdr := ⟨[], [], [], 0, []⟩
abbrev vPol (p : Pol) : V := .agg [vSs p.lev, vU p.up, vChs p.ins, vChs p.outs, vi p.depth]
/-- Does a line say something? -/
def says (w : List ByteArray) : Bool := decide (0 < w.length) && !decide (sb (w_ w 0) 0 = 35)
def linesF : List ByteArray → Int → Rdr → (Int × Int) ⊕ Rdr
  | [], _, r => .inr r
  | l :: rest, at_, r =>
    if says (fieldsL l) then
      if (readR r (fieldsL l)).2 ≠ 0 then .inl (at_ + Lib.index l.data.toList (w_ (fieldsL l) 0).data.toList, (readR r (fieldsL l)).2)
      else linesF rest (at_ + (l.size + 1)) (readR r (fieldsL l)).1
    else linesF rest (at_ + (l.size + 1)) r
def endR (n : Int) (r : Rdr) : Pol × Int × Int :=
  if r.lev.length = 0 ∨ r.depth = 0 then (pol0, n, 4)
  else if rightM (closeM r.lev.length r.flows) then (⟨r.lev, closeM r.lev.length r.flows, r.ins, r.outs, r.depth⟩, 0, 0) else (pol0, n, 11)
def parseP (s : ByteArray) : Pol × Int × Int :=
  if 65536 < s.size then (pol0, 0, 2)
  else if 0 ≤ badV s s.size 0 then (pol0, badV s s.size 0, 5)
  else match linesF (linesL s) 0 rdr0 with
    | .inl (at_, e) => (pol0, at_, e)
    | .inr r => endR s.size r
abbrev vParse (q : Pol × Int × Int) : V := .tup [vPol q.1, vi q.2.1, vi q.2.2]
theorem kept0 : Kept rdr0 0 := ⟨⟨by decide, by decide, by decide, by decide, by unfold inI64; decide⟩, by decide, fun p hp => by cases hp⟩

structure PLoop (s : ByteArray) where
  i : Nat
  at_ : Int
  r : Rdr
  hi : i ≤ (linesL s).length
  ha : 0 ≤ at_ ∧ at_ ≤ (i : Int) * 65537
  hr : Kept r i
  same : linesF ((linesL s).drop i) at_ r = linesF (linesL s) 0 rdr0

set_option maxHeartbeats 8000000 in
theorem parse6_spec (s : ByteArray) (hs : s.size ≤ 9223372036854775807) : Pure PG 19 [vs s] (vParse (parseP s)) [] := by
  refine Proc.mk (cfg 112) tysOK [] Tryd.func19 rfl (by kernel_rfl) rfl rfl rfl ?_
  intro C x
  refine x.cond rfl trivial (fun h1 => ?_) (fun h1 => ?_)
  · have h1 : 65536 < s.size := by have := of_decide_eq_true h1; omega
    rw [parseP, if_pos h1]
    refine x.leExit ?_
    exact x.exit rfl trivial ⟨⟨[(2, .ptr 0 0), (3, vi 0), (4, vi 2)], [(0, .box [vSs [], vU [], vChs [], vChs [], vi 0])], 1⟩, ⟨⟨⟨rfl, rfl⟩, rfl, rfl, trivial⟩, ⟨⟨rfl, rfl, rfl, rfl, rfl, trivial⟩, trivial⟩, rfl⟩, .inr rfl, ⟨rfl, rfl, rfl, trivial⟩, trivial, rfl⟩
  have h1 : ¬ 65536 < s.size := by have := of_decide_eq_false h1; omega
  refine x.pure rfl trivial rfl (badW_spec s hs) ⟨rfl, trivial⟩ ?_
  refine x.cond rfl trivial (fun h2 => ?_) (fun h2 => ?_)
  · have h2 : 0 ≤ badV s s.size 0 := of_decide_eq_true h2
    rw [parseP, if_neg h1, if_pos h2]
    refine x.leExit ?_
    exact x.exit rfl trivial ⟨⟨[(2, .ptr 0 0), (3, vi (badV s s.size 0)), (4, vi 5)], [(0, .box [vSs [], vU [], vChs [], vChs [], vi 0])], 1⟩, ⟨⟨⟨rfl, rfl⟩, rfl, rfl, trivial⟩, ⟨⟨rfl, rfl, rfl, rfl, rfl, trivial⟩, trivial⟩, rfl⟩, .inr rfl, ⟨rfl, rfl, rfl, trivial⟩, trivial, rfl⟩
  have h2 : ¬ 0 ≤ badV s s.size 0 := of_decide_eq_false h2
  obtain ⟨l1, l2⟩ := lines_ok s
  refine x.pure rfl trivial rfl (split_spec s (by omega)) ⟨rfl, rfl, trivial⟩ ?_
  refine x.toLoop rfl trivial ?_
  refine Go.ownB 1 0 9 1 (fun i => [.str (([] : List ByteArray).getD i .empty)]) rfl rfl ?_
  refine Go.ownB 1 2 54 2 (fun i => [.str (([] : List Chan).getD i chan0).1, .int .i64 (([] : List Chan).getD i chan0).2]) rfl rfl ?_
  refine Go.ownB 1 3 54 2 (fun i => [.str (([] : List Chan).getD i chan0).1, .int .i64 (([] : List Chan).getD i chan0).2]) rfl rfl ?_
  refine Go.ownB 1 5 110 2 (fun i => [.int .i64 ((([] : List (Nat × Nat)).getD i (0, 0)).1 : Int), .int .i64 ((([] : List (Nat × Nat)).getD i (0, 0)).2 : Int)]) rfl rfl ?_
  refine x.loop (α := PLoop s) (fun y => ⟨[(0, vs s), (2, .ptr 0 0), (3, vi 0), (4, vi 0), (6, .ptr 1 0), (7, vi y.at_), (27, vSs (linesL s)), (28, vi ((linesL s).length : Int)), (29, vi (y.i : Int))],
    [(0, .box [.nils, .nils, .nils, .nils, vi 0]), (1, .box [.own 2, .nils, .own 3, .own 4, vi y.r.depth, .own 5]), (2, vecS y.r.lev), (3, vecC y.r.ins), (4, vecC y.r.outs), (5, vecP y.r.flows)], 6⟩) (fun y => (linesL s).length - y.i) ⟨0, 0, rdr0, by omega, by omega, kept0, rfl⟩ rfl trivial ?_ (fun y => ?_)
  · exact ⟨⟨rfl, ⟨rfl, rfl⟩, rfl, rfl, ⟨rfl, rfl⟩, rfl, veq_d rfl, rfl, rfl, trivial⟩, ⟨⟨trivial, trivial, trivial, trivial, rfl, trivial⟩, ⟨rfl, trivial, rfl, rfl, rfl, rfl, trivial⟩, ⟨rfl, rfl, rfl, fun _ h => absurd h (Nat.not_lt_zero _)⟩, ⟨rfl, rfl, rfl, fun _ h => absurd h (Nat.not_lt_zero _)⟩, ⟨rfl, rfl, rfl, fun _ h => absurd h (Nat.not_lt_zero _)⟩, ⟨rfl, rfl, rfl, fun _ h => absurd h (Nat.not_lt_zero _)⟩, trivial⟩, rfl⟩
  obtain ⟨i, at_, r, hi, ha, hr, same⟩ := y
  change Go C _ ⟨[(0, vs s), (2, .ptr 0 0), (3, vi 0), (4, vi 0), (6, .ptr 1 0), (7, vi at_), (27, vSs (linesL s)), (28, vi ((linesL s).length : Int)), (29, vi (i : Int))],
    [(0, .box [.nils, .nils, .nils, .nils, vi 0]), (1, .box [.own 2, .nils, .own 3, .own 4, vi r.depth, .own 5]), (2, vecS r.lev), (3, vecC r.ins), (4, vecC r.outs), (5, vecP r.flows)], 6⟩ _
  refine x.cond rfl trivial (fun h3 => ?_) (fun h3 => ?_)
  · have h3 : i < (linesL s).length := by have := of_decide_eq_true h3; omega
    obtain ⟨l, hl⟩ : ∃ l, (linesL s).getD i .empty = l := ⟨_, rfl⟩
    have hget : (linesL s)[i]? = some l := by rw [← hl, List.getD_eq_getElem?_getD, List.getElem?_eq_getElem h3]; rfl
    have hlz := l1 l (List.mem_of_getElem? hget)
    obtain ⟨f1, f2⟩ := fields_ok l
    rw [drop_cons hget, linesF] at same
    have hat : at_ ≤ 4295032833 := by
      have : (i : Int) ≤ 65536 := by omega
      omega
    refine x.pure rfl ?_ rfl (fields_spec l (by omega)) ⟨?_, rfl, trivial⟩ ?_
    · simp only [AllP]; omega
    · show VEq0 (vs ((linesL s).getD i .empty)) (vs l)
      rw [hl]; exact rfl
    refine x.cond rfl ?_ (fun h4 => ?_) (fun h4 => ?_)
    · simp only [AllP, decide_eq_true_eq]
      refine ⟨fun h => ⟨by decide, h⟩, fun h => ⟨by decide, ?_⟩⟩
      have h : 0 < (fieldsL l).length := by omega
      have := (f1 ((fieldsL l).getD 0 .empty) (by rw [List.getD_eq_getElem?_getD, List.getElem?_eq_getElem h]; exact List.getElem_mem h)).1
      show (0 : Int) < (((fieldsL l).getD 0 .empty).size : Int)
      omega
    · have h4 : says (fieldsL l) = true := by
        refine Eq.trans ?_ h4
        unfold says
        congr 1
        rw [decide_eq_decide]; omega
      have h0 : 0 < (fieldsL l).length := by
        unfold says at h4
        simp only [Bool.and_eq_true, decide_eq_true_eq] at h4
        exact h4.1
      rw [if_pos h4] at same
      have hw0 := f1 ((fieldsL l).getD 0 .empty) (by rw [List.getD_eq_getElem?_getD, List.getElem?_eq_getElem h0]; exact List.getElem_mem h0)
      refine x.call [1, 2, 3, 4, 5] rfl trivial rfl (read_spec r hr.toSmall (fieldsL l) (by omega) (by unfold inI64; omega) (fun f hf => by have := (f1 f hf).2; omega)) rfl ⟨⟨rfl, rfl⟩, veq_d rfl, trivial⟩ ⟨⟨rfl, trivial, rfl, rfl, rfl, rfl, trivial⟩, ⟨rfl, rfl, rfl, fun _ _ => rfl⟩, ⟨rfl, rfl, rfl, fun _ _ => rfl⟩, ⟨rfl, rfl, rfl, fun _ _ => rfl⟩, ⟨rfl, rfl, rfl, fun _ _ => rfl⟩, trivial⟩ ?_
      refine x.cond rfl trivial (fun h5 => ?_) (fun h5 => ?_)
      · have h5 : (!decide ((readR r (fieldsL l)).2 = 0)) = true := h5
        have h5 : (readR r (fieldsL l)).2 ≠ 0 := by simpa using h5
        rw [if_pos h5] at same
        have hix := index_le l.data.toList (w_ (fieldsL l) 0).data.toList
        have hig := Lib.index_ge l.data.toList (w_ (fieldsL l) 0).data.toList
        have hll : l.data.toList.length = l.size := Array.length_toList
        refine x.pure rfl ?_ rfl (index_spec l (w_ (fieldsL l) 0) (by omega)) ⟨?_, rfl, trivial⟩ ?_
        · simp only [AllP]; omega
        · show VEq0 (vs ((linesL s).getD i .empty)) (vs l)
          rw [hl]; exact rfl
        have hp : parseP s = (pol0, at_ + Lib.index l.data.toList (w_ (fieldsL l) 0).data.toList, (readR r (fieldsL l)).2) := by
          rw [parseP, if_neg h1, if_neg h2, ← same]
        rw [hp]
        refine x.leExit ?_
        refine x.exit rfl ?_ ⟨⟨[(2, .ptr 0 0), (3, vi (at_ + Lib.index l.data.toList (w_ (fieldsL l) 0).data.toList)), (4, vi (readR r (fieldsL l)).2)], [(0, .box [vSs [], vU [], vChs [], vChs [], vi 0])], 1⟩, ⟨⟨⟨rfl, rfl⟩, rfl, rfl, trivial⟩, ⟨⟨rfl, rfl, rfl, rfl, rfl, trivial⟩, trivial⟩, rfl⟩, .inr rfl, ⟨rfl, rfl, rfl, trivial⟩, trivial, rfl⟩
        simp only [AllP, inI64]; omega
      · have h5 : (!decide ((readR r (fieldsL l)).2 = 0)) = false := h5
        have h5 : ¬ (readR r (fieldsL l)).2 ≠ 0 := by simpa using h5
        rw [if_neg h5] at same
        refine x.back rfl ?_ ⟨⟨i + 1, at_ + (l.size + 1), (readR r (fieldsL l)).1, by omega, by omega, kept_read hr (by omega) _, same⟩, by show (linesL s).length - (i + 1) < (linesL s).length - i; omega, ?_⟩
        · simp only [AllP, Int.toNat_natCast]
          rw [hl]
          simp only [inI64]; omega
        · refine ⟨⟨rfl, ⟨rfl, rfl⟩, rfl, rfl, ⟨rfl, rfl⟩, ?_, veq_d rfl, rfl, (show VEq0 (vi ((i : Int) + 1)) (vi ((i + 1 : Nat) : Int)) by rw [Int.natCast_add]; rfl), trivial⟩, ⟨⟨trivial, trivial, trivial, trivial, rfl, trivial⟩, ⟨rfl, trivial, rfl, rfl, rfl, rfl, trivial⟩, ⟨rfl, rfl, rfl, fun _ _ => rfl⟩, ⟨rfl, rfl, rfl, fun _ _ => rfl⟩, ⟨rfl, rfl, rfl, fun _ _ => rfl⟩, ⟨rfl, rfl, rfl, fun _ _ => rfl⟩, trivial⟩, rfl⟩
          show VEq0 (vi (at_ + ((((linesL s).getD i .empty).size : Int) + 1))) (vi (at_ + (l.size + 1)))
          rw [hl]; exact rfl
    · have h4 : says (fieldsL l) = false := by
        refine Eq.trans ?_ h4
        unfold says
        congr 1
        rw [decide_eq_decide]; omega
      rw [if_neg (by rw [h4]; simp)] at same
      refine x.back rfl ?_ ⟨⟨i + 1, at_ + (l.size + 1), r, by omega, by omega, ⟨hr.toSmall, Nat.le_succ_of_le hr.count, hr.flow⟩, same⟩, by show (linesL s).length - (i + 1) < (linesL s).length - i; omega, ?_⟩
      · simp only [AllP, Int.toNat_natCast]
        rw [hl]
        simp only [inI64]; omega
      · refine ⟨⟨rfl, ⟨rfl, rfl⟩, rfl, rfl, ⟨rfl, rfl⟩, ?_, veq_d rfl, rfl, (show VEq0 (vi ((i : Int) + 1)) (vi ((i + 1 : Nat) : Int)) by rw [Int.natCast_add]; rfl), trivial⟩, ⟨⟨trivial, trivial, trivial, trivial, rfl, trivial⟩, ⟨rfl, trivial, rfl, rfl, rfl, rfl, trivial⟩, ⟨rfl, rfl, rfl, fun _ _ => rfl⟩, ⟨rfl, rfl, rfl, fun _ _ => rfl⟩, ⟨rfl, rfl, rfl, fun _ _ => rfl⟩, ⟨rfl, rfl, rfl, fun _ _ => rfl⟩, trivial⟩, rfl⟩
        show VEq0 (vi (at_ + ((((linesL s).getD i .empty).size : Int) + 1))) (vi (at_ + (l.size + 1)))
        rw [hl]; exact rfl
  have h3 : i = (linesL s).length := by have := of_decide_eq_false h3; omega
  rw [h3, List.drop_length] at same
  have hp : parseP s = endR s.size r := by
    rw [parseP, if_neg h1, if_neg h2, ← same]; rfl
  rw [hp]
  have hlev := hr.lev
  refine x.cond rfl trivial (fun h4 => ?_) (fun h4 => ?_)
  · have h4 : (decide ((r.lev.length : Int) = 0) || decide (r.depth = 0)) = true := h4
    have h4 : r.lev.length = 0 ∨ r.depth = 0 := by
      simp only [Bool.or_eq_true, decide_eq_true_eq] at h4
      omega
    rw [endR, if_pos h4]
    refine x.leExit ?_
    exact x.exit rfl trivial ⟨⟨[(2, .ptr 0 0), (3, vi (s.size : Int)), (4, vi 4)], [(0, .box [vSs [], vU [], vChs [], vChs [], vi 0])], 1⟩, ⟨⟨⟨rfl, rfl⟩, rfl, rfl, trivial⟩, ⟨⟨rfl, rfl, rfl, rfl, rfl, trivial⟩, trivial⟩, rfl⟩, .inr rfl, ⟨rfl, rfl, rfl, trivial⟩, trivial, rfl⟩
  have h4 : (decide ((r.lev.length : Int) = 0) || decide (r.depth = 0)) = false := h4
  have h4 : ¬ (r.lev.length = 0 ∨ r.depth = 0) := by
    simp only [Bool.or_eq_false_iff, decide_eq_false_iff_not] at h4
    omega
  rw [endR, if_neg h4]
  have hfl := hr.flows
  refine Sx.Go.freeze 5 ?_
  refine Sx.Go.freeze 4 ?_
  refine Sx.Go.freeze 3 ?_
  refine Sx.Go.freeze 2 ?_
  have hbs := build_spec r.lev.length r.flows (by omega) hlev hr.flow (by unfold inI64; omega)
  refine x.every2 [] [0, 1, 2, 3, 4, 5, 6, 7, 8, 9] (.fork 10 (.fork 11 (.fork 12 (.fork 13 (.fork 14 (.fork 15 .leaf .no) .no) (.fork 14 (.fork 13 (.fork 15 .leaf .no) .no) .no)) (.fork 13 (.fork 12 (.fork 14 (.fork 15 .leaf .no) .no) .no) .no)) .no) .no)
    ⟨[(0, vs s), (2, .ptr 0 0), (3, vi 0), (4, vi 0), (6, .ptr 1 0), (12, vU (if rightM (closeM r.lev.length r.flows) then closeM r.lev.length r.flows else [])), (13, vi (if rightM (closeM r.lev.length r.flows) then 0 else 11))], [], 6⟩ rfl trivial mixedP (by kernel_rfl) Ret.noPanic rfl trivial (fun C2 x2 => ?_) ?_
  · repeat' first
        | exact True.intro
        | refine And.intro ?_ ?_
        | refine x2.back rfl trivial ?_
        | refine x2.pure rfl trivial rfl hbs ⟨rfl, veq_d rfl, trivial⟩ (x2.back rfl trivial ?_)
        | exact .inl ⟨⟨rfl, ⟨rfl, rfl⟩, rfl, rfl, ⟨rfl, rfl⟩, veq_d rfl, rfl, trivial⟩, trivial, rfl⟩
  by_cases hR : rightM (closeM r.lev.length r.flows) = true
  · simp only [if_pos hR]
    refine x.cond rfl trivial (fun h5 => ?_) (fun h5 => ?_)
    · cases h5
    · exact x.exit rfl trivial ⟨.inr rfl, ⟨rfl, rfl, rfl, trivial⟩, trivial, rfl⟩
  · simp only [if_neg hR]
    refine x.cond rfl trivial (fun h5 => ?_) (fun h5 => ?_)
    · refine x.leExit ?_
      exact x.exit rfl trivial ⟨⟨[(2, .ptr 0 0), (3, vi (s.size : Int)), (4, vi 11)], [(0, .box [vSs [], vU [], vChs [], vChs [], vi 0])], 1⟩, ⟨⟨⟨rfl, rfl⟩, rfl, rfl, trivial⟩, ⟨⟨rfl, rfl, rfl, rfl, rfl, trivial⟩, trivial⟩, rfl⟩, .inr rfl, ⟨rfl, rfl, rfl, trivial⟩, trivial, rfl⟩
    · cases h5
end Go.Proofs.YtgnnglfbpcjadaaDoor

/- Policies: the answer's Copy, Level and Channel; the examples; the law PolicyFinds. -/
namespace Go.Proofs.YtgnnglfbpcjadaaDoor
open Go.Sx
set_option linter.unusedVariables false
set_option linter.unusedSimpArgs false
set_option maxRecDepth 100000

structure PolSz (p : Pol) : Prop where
  lev : p.lev.length * 16 ≤ 140737488355328
  up : p.up.length * 8 ≤ 140737488355328
  ins : p.ins.length * 24 ≤ 140737488355328
  outs : p.outs.length * 24 ≤ 140737488355328
theorem sl_app0 {z z' n : Nat} {us : List D} {f : Nat → List D} (hz : z = z') (h : ∀ i, app 0 (tab (List.replicate 0 us)) f i = f i) : D.sl z (0 + n) (app 0 (tab (List.replicate 0 us)) f) = .sl z' n f := by
  subst hz
  rw [Nat.zero_add, show app 0 (tab (List.replicate 0 us)) f = f from funext h]
theorem app0_1 {u : D} (d : Nat → D) (i : Nat) : app 0 (tab (List.replicate 0 [u])) (fun i => [d i]) i = [d i] := by
  show (if i < 0 then [] else [d (i - 0)]) = _
  rw [if_neg (by omega)]; rfl
theorem app0_2 {u v : D} (d e : Nat → D) (i : Nat) : app 0 (tab (List.replicate 0 [u, v])) (fun i => [d i, e i]) i = [d i, e i] := by
  show (if i < 0 then [] else [d (i - 0), e (i - 0)]) = _
  rw [if_neg (by omega)]; rfl

def exP : ByteArray := ⟨#[108, 101, 118, 101, 108, 32, 108, 111, 119, 10, 108, 101, 118, 101, 108, 32, 104, 105, 103, 104, 10, 102, 108, 111, 119, 32, 108, 111, 119, 32, 104, 105, 103, 104, 10, 105, 110, 112, 117, 116, 32, 107, 101, 121, 32, 104, 105, 103, 104, 10, 111, 117, 116, 112, 117, 116, 32, 110, 101, 116, 32, 108, 111, 119, 10, 100, 101, 112, 116, 104, 32, 56]⟩
def exQ : ByteArray := ⟨#[108, 101, 118, 101, 108, 32, 108, 111, 119, 10, 32, 105, 110, 112, 117, 116, 32, 107, 101, 121, 32, 104, 105, 103, 104]⟩
theorem exP_e : (parseP exP).2.2 = 0 ∧ (parseP exP).1.lev.length = 2 ∧ (parseP exP).1.ins.length = 1 ∧ ((parseP exP).1.ins.getD 0 chan0).2 = 1 ∧ (parseP exP).1.depth = 8 := by decide +kernel
theorem exQ_e : (parseP exQ).2.2 = 10 ∧ (parseP exQ).2.1 = 11 := by decide +kernel
/-! ### the law -/
end Go.Proofs.YtgnnglfbpcjadaaDoor

/- Policies that are handed in, as data; a row whose walk wants the world's shape. -/
namespace Go.Proofs.YtgnnglfbpcjadaaDoor
open Go.Sx
set_option linter.unusedVariables false
set_option linter.unusedSimpArgs false

theorem conf_lst {α : Type} {z : Nat} {τ : List DTy} {x : D} (d : α → List D) (P : α → Prop) (a0 : α) (each : ∀ ds, Conf τ ds → ∃ a, P a ∧ ds.length = (d a).length ∧ ∀ (j : Nat) (u u' : D), ds[j]? = some u → (d a)[j]? = some u' → DQ u u')
    (h : Conf1 (.sl z τ) x) : ∃ l : List α, DQ x (.sl τ.length l.length fun i => d (l.getD i a0)) ∧ (l.length ≤ maxLen ∧ l.length * z ≤ reachBytes) ∧ ∀ a ∈ l, P a := by
  cases h with
  | sl _ _ n f hn hz hl hc =>
    have each' : ∀ i, i < n → ∃ a, P a ∧ (f i).length = (d a).length ∧ ∀ (j : Nat) (u u' : D), (f i)[j]? = some u → (d a)[j]? = some u' → DQ u u' := fun i hi => each (f i) ⟨hl i hi, fun j t d ht hd => hc i j t d hi ht hd⟩
    let g : Nat → α := fun i => if h : i < n then Classical.choose (each' i h) else a0
    have hg : ∀ i, i < n → P (g i) ∧ (f i).length = (d (g i)).length ∧ ∀ (j : Nat) (u u' : D), (f i)[j]? = some u → (d (g i))[j]? = some u' → DQ u u' := fun i hi => by
      have e : g i = Classical.choose (each' i hi) := by simp only [g, hi, dite_true]
      rw [e]
      exact Classical.choose_spec (each' i hi)
    have hgd : ∀ i, i < n → ((List.range n).map g).getD i a0 = g i := fun i hi => by
      rw [List.getD_eq_getElem?_getD, List.getElem?_eq_getElem (by simpa using hi)]; simp
    refine ⟨(List.range n).map g, ?_, by simpa using ⟨hn, hz⟩, fun o ho => ?_⟩
    · rw [show ((List.range n).map g).length = n by simp]
      refine .sl _ n _ _ (fun i hi => ?_) fun i j u u' hi hd hd' => ?_
      · rw [hgd i hi]; exact (hg i hi).2.1
      · rw [hgd i hi] at hd'
        exact (hg i hi).2.2 j u u' hd hd'
    · obtain ⟨i, hi, rfl⟩ := List.mem_map.1 ho
      exact (hg i (List.mem_range.1 hi)).1
def StrZ (s : ByteArray) : Prop := s.size ≤ 140737488355328
theorem reach_z {s : ByteArray} (h : s.size ≤ reachBytes) : StrZ s := by
  have := reachBytes_lt
  unfold StrZ; omega
theorem wf_i64 {n : Int} (h : (Lit.int .i64 n).wf = true) : inI64 n := by
  simp only [Lit.wf, Bool.and_eq_true, decide_eq_true_eq] at h
  exact h
theorem wf_u64 {n : Int} (h : (Lit.int .u64 n).wf = true) : 0 ≤ n ∧ n ≤ 18446744073709551615 := by
  simp only [Lit.wf, Bool.and_eq_true, decide_eq_true_eq] at h
  exact h
structure PolOK (p : Pol) : Prop where
  sz : PolSz p
  lev : ∀ s ∈ p.lev, StrZ s
  ins : ∀ c ∈ p.ins, StrZ c.1 ∧ inI64 c.2
  outs : ∀ c ∈ p.outs, StrZ c.1 ∧ inI64 c.2
  depth : inI64 p.depth
theorem conf_ss {z : Nat} {x : D} (h : Conf1 (.sl z [.str]) x) : ∃ l : List ByteArray, DQ x (dSs l) ∧ (l.length ≤ maxLen ∧ l.length * z ≤ reachBytes) ∧ ∀ a ∈ l, StrZ a :=
  conf_lst (fun s => [D.str s]) StrZ .empty (fun ds ⟨hl, hc⟩ => by
    match ds, hl with
    | [d0], _ =>
      obtain ⟨s, rfl, h1, h2⟩ := conf_str (hc 0 _ _ rfl rfl)
      refine ⟨s, reach_z h2, rfl, fun j u u' hd hd' => ?_⟩
      match j with
      | 0 => simp at hd hd'; subst hd hd'; exact .refl _
      | j + 1 => simp at hd) h
theorem conf_up {z : Nat} {x : D} (h : Conf1 (.sl z [.int .u64]) x) : ∃ l : List M64, DQ x (dUp l) ∧ (l.length ≤ maxLen ∧ l.length * z ≤ reachBytes) ∧ ∀ a ∈ l, True :=
  conf_lst (fun m => [dm m]) (fun _ => True) 0#64 (fun ds ⟨hl, hc⟩ => by
    match ds, hl with
    | [d0], _ =>
      obtain ⟨n, rfl, h1⟩ := conf_int (hc 0 _ _ rfl rfl)
      have h2 := wf_u64 h1
      refine ⟨BitVec.ofInt 64 n, trivial, rfl, fun j u u' hd hd' => ?_⟩
      match j with
      | 0 =>
        simp only [List.getElem?_cons_zero, Option.some.injEq] at hd hd'
        subst hd hd'
        have e : ((BitVec.ofInt 64 n).toNat : Int) = n := by
          rw [BitVec.toNat_ofInt]; omega
        unfold dm
        rw [e]; exact .refl _
      | j + 1 => simp at hd) h
theorem conf_chs {z : Nat} {x : D} (h : Conf1 (.sl z [.str, .int .i64]) x) : ∃ l : List Chan, DQ x (dChs l) ∧ (l.length ≤ maxLen ∧ l.length * z ≤ reachBytes) ∧ ∀ a ∈ l, StrZ a.1 ∧ inI64 a.2 :=
  conf_lst (fun c : Chan => [D.str c.1, D.int .i64 c.2]) (fun c => StrZ c.1 ∧ inI64 c.2) chan0 (fun ds ⟨hl, hc⟩ => by
    match ds, hl with
    | [d0, d1], _ =>
      obtain ⟨s, rfl, h1, h2⟩ := conf_str (hc 0 _ _ rfl rfl)
      obtain ⟨n, rfl, h3⟩ := conf_int (hc 1 _ _ rfl rfl)
      refine ⟨(s, n), ⟨reach_z h2, wf_i64 h3⟩, rfl, fun j u u' hd hd' => ?_⟩
      match j with
      | 0 => simp at hd hd'; subst hd hd'; exact .refl _
      | 1 => simp at hd hd'; subst hd hd'; exact .refl _
      | j + 2 => simp at hd) h
abbrev polTy : List DTy := [.sl 16 [.str], .sl 8 [.int .u64], .sl 24 [.str, .int .i64], .sl 24 [.str, .int .i64], .int .i64]
theorem conf_polV {F : Nat → Prop} {w : World} {ρ : Nat → Value} {ds : List D} {cs : List Value} (h : Conf polTy ds) (hr : All2 (RD F w) ds cs) : ∃ x : Pol, PolOK x ∧ R3 ρ F w (vPol x) (.agg cs.toArray) := by
  obtain ⟨hl, hc⟩ := h
  match ds, hl, cs, hr with
  | [d0, d1, d2, d3, d4], _, [c0, c1, c2, c3, c4], ⟨r0, r1, r2, r3, r4, _⟩ =>
    obtain ⟨l0, q0, w0, z0⟩ := conf_ss (hc 0 _ _ rfl rfl)
    obtain ⟨l1, q1, w1, z1⟩ := conf_up (hc 1 _ _ rfl rfl)
    obtain ⟨l2, q2, w2, z2⟩ := conf_chs (hc 2 _ _ rfl rfl)
    obtain ⟨l3, q3, w3, z3⟩ := conf_chs (hc 3 _ _ rfl rfl)
    obtain ⟨n4, rfl, w4⟩ := conf_int (hc 4 _ _ rfl rfl)
    have := reachBytes_lt
    exact ⟨⟨l0, l1, l2, l3, n4⟩, ⟨⟨by show l0.length * 16 ≤ _; omega, by show l1.length * 8 ≤ _; omega, by show l2.length * 24 ≤ _; omega, by show l3.length * 24 ≤ _; omega⟩, z0, z2, z3, wf_i64 w4⟩, ⟨_, rfl, q0.sound r0, q1.sound r1, q2.sound r2, q3.sound r3, r4, trivial⟩⟩

/-- A row's claim from a walk that is told what the tables hold and that the world has the program's shape. -/
theorem returns_shaped {H : Type} {enc : TypeId × Value → H} {a : Assume} {C : Checked} {os : Os} {f : FuncId} {fn : Func} {s : ChangeSpec} {conds : List PathCond} {apart fresh handsOn again : Bool} {X : World → Array Value → Prop}
    (hX : ∀ (w w' : World) (args : Array Value), w.heap = w'.heap → X w args → X w' args)
    (own : ownKnob C.prog.godebug = none) (started : os.Started) (noInit : C.prog.inits.idxOf? f = none) (hfn : C.prog.funcs[f]? = some fn)
    (witness : ∃ (w : World) (tape : Tape) (i : Input), w.os = os ∧ (w.forCall tape i).Shaped C.prog ∧ i.vars = [] ∧ Input.okWide C.prog (w.forCall tape i) .any w.heap.size f i ∧
      ((s.pre enc C.prog fn conds apart (w.forCall tape i).memory i.args ∧ X (w.forCall tape i).memory i.args) ∧ sizedMet enc C.prog fn (OpenSpec.ofChange s) apart (w.forCall tape i).memory i.args) ∧ a.holds C.prog (lone (Frame.enter C.prog f i.args .normal) [] (w.forCall tape i)))
    (walk : ∀ (W : World) (base : Nat) (args : Array Value) (ds gs : List (DataW H)) (before : List MemPlace), W.ShapedOpen C.prog →
      (∀ (j : Nat) t v, fn.params[j]? = some t → args[j]? = some v → Value.okWide C.prog W .any base t v) →
      DataW.Whole enc C.prog fn.params.toList s.vars apart W args.toList ds gs before →
      conds.all (PathCond.test C.prog ⟨fn.params.toList, ds, s.plain.varTypes C.prog, gs⟩) = true →
      (DataW.weightsEach C.prog (fn.params.toList ++ s.plain.varTypes C.prog) (ds ++ gs)).all (· ≤ reachBytes) = true → X W args →
      a.holds C.prog (lone (Frame.enter C.prog f args .normal) [] W) →
      Calls C.prog f args W fun e W' => ∃ v, e = .returned v ∧ s.post enc C.prog fn apart fresh handsOn again W args v W') :
    ReturnsInHanded a C os f .any (fun w args => (s.pre enc C.prog fn conds apart w args ∧ X w args) ∧ sizedMet enc C.prog fn (OpenSpec.ofChange s) apart w args) (s.post enc C.prog fn apart fresh handsOn again) :=
  returnsInHanded_of_calls own started noInit witness fun w tape i _ hshape _ hin ⟨⟨⟨ds, gs, before, hwhole, hcond⟩, hx⟩, hz⟩ hh => by
    obtain ⟨_, _, _, fn', e, _, _, _, _, hv⟩ := hin
    cases hfn.symm.trans e
    refine (walk _ w.heap.size i.args ds gs before hshape hv (DataW.Whole.of_heap (w' := w.forCall tape i) (by rfl) hwhole) hcond (hz.weights hwhole) (hX _ _ _ (by rfl) hx) hh).mono ?_
    rintro e W' ⟨v, rfl, hp⟩
    exact ChangeSpec.post_blind hp
end Go.Proofs.YtgnnglfbpcjadaaDoor

/- Policies: the answer's Same, of a policy and itself. -/
namespace Go.Proofs.YtgnnglfbpcjadaaDoor
open Go.Sx
set_option linter.unusedVariables false
set_option linter.unusedSimpArgs false
set_option maxRecDepth 100000


abbrev polB (p : Pol) : Ch := .box [vSs p.lev, vU p.up, vChs p.ins, vChs p.outs, vi p.depth]
theorem polB_eq (p : Pol) : ChEq (polB p) (polB p) := ⟨veq0_d rfl, veq0_d rfl, veq0_d rfl, veq0_d rfl, rfl, trivial⟩
theorem polSz_i64 {p : Pol} (h : PolSz p) : inI64 (p.lev.length : Int) ∧ inI64 (p.up.length : Int) ∧ inI64 (p.ins.length : Int) ∧ inI64 (p.outs.length : Int) := by
  obtain ⟨h1, h2, h3, h4⟩ := h
  unfold inI64; omega
end Go.Proofs.YtgnnglfbpcjadaaDoor

/- Boxes: what is handed in: rows, events, calls. -/
namespace Go.Proofs.YtgnnglfbpcjadaaDoor
open Go.Sx
set_option linter.unusedVariables false
set_option linter.unusedSimpArgs false
set_option maxRecDepth 100000

structure Ev where
  kind : Int
  ref : Int
  val : Int
  fn : Int
  at_ : Int
def ev0 : Ev := ⟨0, 0, 0, 0, 0⟩
abbrev evD (e : Ev) : List D := [.int .u8 e.kind, .int .i64 e.ref, .int .i64 e.val, .int .i64 e.fn, .int .i64 e.at_]
def dEvs (l : List Ev) : D := .sl 5 l.length fun i => evD (l.getD i ev0)
abbrev vEvs (l : List Ev) : V := .d (dEvs l)
abbrev vEv (e : Ev) : V := .agg [.d (.int .u8 e.kind), vi e.ref, vi e.val, vi e.fn, vi e.at_]
abbrev Rows := List (List Int)
abbrev vInts (l : List Int) : V := .d (dInts l)
abbrev vRows (l : Rows) : V := .d (dRows l)
structure Call where
  kind : Int
  input : Int
  ev : Ev
def call0 : Call := ⟨0, 0, ev0⟩
def dCalls (l : List Call) : D := .sl 7 l.length fun i => [.int .i64 (l.getD i call0).kind, .int .i64 (l.getD i call0).input] ++ evD (l.getD i call0).ev
abbrev vCall (c : Call) : V := .agg [vi c.kind, vi c.input, .d (.int .u8 c.ev.kind), vi c.ev.ref, vi c.ev.val, vi c.ev.fn, vi c.ev.at_]
structure Ask where
  p : Pol
  level : Int
  a : Rows
  b : Rows
  kind : Int
  evs : List Ev
abbrev vAsk (x : Ask) : V := .agg [vSs x.p.lev, vU x.p.up, vChs x.p.ins, vChs x.p.outs, vi x.p.depth, vi x.level, vRows x.a, vRows x.b, .d (.int .u8 x.kind), vEvs x.evs]

structure EvOK (e : Ev) : Prop where
  ref : inI64 e.ref
  fn : inI64 e.fn
  at_ : inI64 e.at_
structure RowsOK (l : Rows) : Prop where
  len : l.length * 24 ≤ 140737488355328
  row : ∀ r ∈ l, r.length * 8 ≤ 140737488355328
structure CallOK (c : Call) : Prop where
  kind : inI64 c.kind
  input : inI64 c.input
  ev : EvOK c.ev
structure AskOK (x : Ask) : Prop where
  p : PolOK x.p
  level : inI64 x.level
  a : RowsOK x.a
  b : RowsOK x.b
  evs : x.evs.length * 40 ≤ 140737488355328
  ev : ∀ e ∈ x.evs, EvOK e
abbrev evTy : List DTy := [.int .u8, .int .i64, .int .i64, .int .i64, .int .i64]
abbrev opTy : List DTy := [.int .i64, .int .i64, .int .u8, .int .i64, .int .i64, .int .i64, .int .i64]
abbrev rowsTy : DTy := .sl 24 [.sl 8 [.int .i64]]
abbrev askTy : List DTy := [.sl 16 [.str], .sl 8 [.int .u64], .sl 24 [.str, .int .i64], .sl 24 [.str, .int .i64], .int .i64, .int .i64, rowsTy, rowsTy, .int .u8, .sl 40 evTy]
theorem conf_ev {ds : List D} (h : Conf evTy ds) : ∃ e : Ev, EvOK e ∧ ds.length = (evD e).length ∧ ∀ (j : Nat) (u u' : D), ds[j]? = some u → (evD e)[j]? = some u' → DQ u u' := by
  obtain ⟨hl, hc⟩ := h
  match ds, hl with
  | [d0, d1, d2, d3, d4], _ =>
    obtain ⟨n0, rfl, h0⟩ := conf_int (hc 0 _ _ rfl rfl)
    obtain ⟨n1, rfl, h1⟩ := conf_int (hc 1 _ _ rfl rfl)
    obtain ⟨n2, rfl, h2⟩ := conf_int (hc 2 _ _ rfl rfl)
    obtain ⟨n3, rfl, h3⟩ := conf_int (hc 3 _ _ rfl rfl)
    obtain ⟨n4, rfl, h4⟩ := conf_int (hc 4 _ _ rfl rfl)
    refine ⟨⟨n0, n1, n2, n3, n4⟩, ⟨wf_i64 h1, wf_i64 h3, wf_i64 h4⟩, rfl, fun j u u' hd hd' => ?_⟩
    rw [hd] at hd'
    cases hd'; exact .refl _
theorem conf_evs {z : Nat} {x : D} (h : Conf1 (.sl z evTy) x) : ∃ l : List Ev, DQ x (dEvs l) ∧ (l.length ≤ maxLen ∧ l.length * z ≤ reachBytes) ∧ ∀ e ∈ l, EvOK e := conf_lst evD EvOK ev0 (fun ds hd => conf_ev hd) h
theorem conf_rowsR {x : D} (h : Conf1 rowsTy x) : ∃ l : Rows, DQ x (dRows l) ∧ RowsOK l := by
  obtain ⟨l, h1, h2, h3⟩ := conf_rows h
  have := reachBytes_lt
  exact ⟨l, h1, by omega, fun r hr => by have := (h3 r hr).1; omega⟩
theorem conf_calls {z : Nat} {x : D} (h : Conf1 (.sl z opTy) x) : ∃ l : List Call, DQ x (dCalls l) ∧ (l.length ≤ maxLen ∧ l.length * z ≤ reachBytes) ∧ ∀ c ∈ l, CallOK c :=
  conf_lst (fun c : Call => [D.int .i64 c.kind, D.int .i64 c.input] ++ evD c.ev) CallOK call0 (fun ds ⟨hl, hc⟩ => by
    match ds, hl with
    | [d0, d1, d2, d3, d4, d5, d6], _ =>
      obtain ⟨n0, rfl, h0⟩ := conf_int (hc 0 _ _ rfl rfl)
      obtain ⟨n1, rfl, h1⟩ := conf_int (hc 1 _ _ rfl rfl)
      obtain ⟨n2, rfl, h2⟩ := conf_int (hc 2 _ _ rfl rfl)
      obtain ⟨n3, rfl, h3⟩ := conf_int (hc 3 _ _ rfl rfl)
      obtain ⟨n4, rfl, h4⟩ := conf_int (hc 4 _ _ rfl rfl)
      obtain ⟨n5, rfl, h5⟩ := conf_int (hc 5 _ _ rfl rfl)
      obtain ⟨n6, rfl, h6⟩ := conf_int (hc 6 _ _ rfl rfl)
      refine ⟨⟨n0, n1, ⟨n2, n3, n4, n5, n6⟩⟩, ⟨wf_i64 h0, wf_i64 h1, ⟨wf_i64 h3, wf_i64 h5, wf_i64 h6⟩⟩, rfl, fun j u u' hd hd' => ?_⟩
      have hd' : [D.int .i64 n0, .int .i64 n1, .int .u8 n2, .int .i64 n3, .int .i64 n4, .int .i64 n5, .int .i64 n6][j]? = some u' := hd'
      rw [hd] at hd'
      cases hd'; exact .refl _) h
theorem conf_callV {F : Nat → Prop} {w : World} {ρ : Nat → Value} {ds : List D} {cs : List Value} (h : Conf opTy ds) (hr : All2 (RD F w) ds cs) : ∃ x : Call, CallOK x ∧ R3 ρ F w (vCall x) (.agg cs.toArray) := by
  obtain ⟨hl, hc⟩ := h
  match ds, hl, cs, hr with
  | [d0, d1, d2, d3, d4, d5, d6], _, [c0, c1, c2, c3, c4, c5, c6], ⟨r0, r1, r2, r3, r4, r5, r6, _⟩ =>
    obtain ⟨n0, rfl, h0⟩ := conf_int (hc 0 _ _ rfl rfl)
    obtain ⟨n1, rfl, h1⟩ := conf_int (hc 1 _ _ rfl rfl)
    obtain ⟨n2, rfl, h2⟩ := conf_int (hc 2 _ _ rfl rfl)
    obtain ⟨n3, rfl, h3⟩ := conf_int (hc 3 _ _ rfl rfl)
    obtain ⟨n4, rfl, h4⟩ := conf_int (hc 4 _ _ rfl rfl)
    obtain ⟨n5, rfl, h5⟩ := conf_int (hc 5 _ _ rfl rfl)
    obtain ⟨n6, rfl, h6⟩ := conf_int (hc 6 _ _ rfl rfl)
    exact ⟨⟨n0, n1, ⟨n2, n3, n4, n5, n6⟩⟩, ⟨wf_i64 h0, wf_i64 h1, ⟨wf_i64 h3, wf_i64 h5, wf_i64 h6⟩⟩, ⟨_, rfl, r0, r1, r2, r3, r4, r5, r6, trivial⟩⟩
theorem conf_askV {F : Nat → Prop} {w : World} {ρ : Nat → Value} {ds : List D} {cs : List Value} (h : Conf askTy ds) (hr : All2 (RD F w) ds cs) : ∃ x : Ask, AskOK x ∧ R3 ρ F w (vAsk x) (.agg cs.toArray) := by
  obtain ⟨hl, hc⟩ := h
  match ds, hl, cs, hr with
  | [d0, d1, d2, d3, d4, d5, d6, d7, d8, d9], _, [c0, c1, c2, c3, c4, c5, c6, c7, c8, c9], ⟨r0, r1, r2, r3, r4, r5, r6, r7, r8, r9, _⟩ =>
    obtain ⟨l0, q0, w0, z0⟩ := conf_ss (hc 0 _ _ rfl rfl)
    obtain ⟨l1, q1, w1, z1⟩ := conf_up (hc 1 _ _ rfl rfl)
    obtain ⟨l2, q2, w2, z2⟩ := conf_chs (hc 2 _ _ rfl rfl)
    obtain ⟨l3, q3, w3, z3⟩ := conf_chs (hc 3 _ _ rfl rfl)
    obtain ⟨n4, rfl, w4⟩ := conf_int (hc 4 _ _ rfl rfl)
    obtain ⟨n5, rfl, w5⟩ := conf_int (hc 5 _ _ rfl rfl)
    obtain ⟨l6, q6, w6⟩ := conf_rowsR (hc 6 _ _ rfl rfl)
    obtain ⟨l7, q7, w7⟩ := conf_rowsR (hc 7 _ _ rfl rfl)
    obtain ⟨n8, rfl, w8⟩ := conf_int (hc 8 _ _ rfl rfl)
    obtain ⟨l9, q9, w9, z9⟩ := conf_evs (hc 9 _ _ rfl rfl)
    have := reachBytes_lt
    exact ⟨⟨⟨l0, l1, l2, l3, n4⟩, n5, l6, l7, n8, l9⟩, ⟨⟨⟨by show l0.length * 16 ≤ _; omega, by show l1.length * 8 ≤ _; omega, by show l2.length * 24 ≤ _; omega, by show l3.length * 24 ≤ _; omega⟩, z0, z2, z3, wf_i64 w4⟩, wf_i64 w5, w6, w7, by show l9.length * 40 ≤ _; omega, z9⟩,
      ⟨_, rfl, q0.sound r0, q1.sound r1, q2.sound r2, q3.sound r3, r4, r5, q6.sound r6, q7.sound r7, r8, q9.sound r9, trivial⟩⟩
end Go.Proofs.YtgnnglfbpcjadaaDoor

/- Policies: the answer's masks (Has, One, With, Above). -/
namespace Go.Proofs.YtgnnglfbpcjadaaDoor
open Go.Sx
set_option linter.unusedVariables false
set_option linter.unusedSimpArgs false
set_option maxRecDepth 100000

theorem bit_div (m : M64) (i : Nat) : decide (((m.toNat / 2 ^ i : Nat) : Int) % 2 = 1) = bit m i := by
  unfold bit
  rw [BitVec.getLsbD, Nat.testBit, Nat.shiftRight_eq_div_pow, Nat.and_comm, Nat.and_one_is_mod]
  have : m.toNat / 2 ^ i % 2 < 2 := Nat.mod_lt _ (by omega)
  by_cases h : m.toNat / 2 ^ i % 2 = 1
  · rw [decide_eq_true (by omega), h]; rfl
  · have h0 : m.toNat / 2 ^ i % 2 = 0 := by omega
    rw [decide_eq_false (by omega), h0]; rfl
abbrev vN (n : Nat) : V := .d (.int .u64 (n : Int))
theorem one_nat {k : Nat} (h : k < 64) : (one k).toNat = 2 ^ k := by
  unfold one
  rw [BitVec.toNat_shiftLeft, Nat.shiftLeft_eq]
  show 1 * 2 ^ k % 2 ^ 64 = _
  rw [Nat.one_mul]
  exact Nat.mod_eq_of_lt (Nat.pow_lt_pow_right (by omega) h)
end Go.Proofs.YtgnnglfbpcjadaaDoor
