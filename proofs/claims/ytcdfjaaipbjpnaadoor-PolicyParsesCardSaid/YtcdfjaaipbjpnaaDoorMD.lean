/- Texts put together: T06R, T06S, T06V, T06L, T06K, T06X, T06H. -/
import Derived.Test.YtcdfjaaipbjpnaaDoorMC
import Derived.Test.YtcdfjaaipbjpnaaDoorMA
import Derived.Test.YtcdfjaaipbjpnaaDoorMB
import Derived.Test.YtcdfjaaipbjpnaaDoorSxF
import Derived.Handed
import Derived.Shelf.Vars

/- Policies: the answer's Close and Build. -/
namespace Go.Proofs.YtcdfjaaipbjpnaaDoor
open Go.Sx
set_option linter.unusedVariables false
set_option linter.unusedSimpArgs false
set_option maxRecDepth 100000

def okRow (g : Nat → M64) (i m : Nat) : Prop := ∀ k, k < m → bit (g i) k = true → g i ||| g k = g i
/-- Rows between the pairs and the closure. -/
structure Mid (n : Nat) (ps : List (Nat × Nat)) (g : Nat → M64) : Prop where
  base : ∀ r j, r < n → bit (pairRow ps r) j = true → bit (g r) j = true
  sub : ∀ r j, r < n → bit (g r) j = true → bit (closed n ps r) j = true
structure CL (n : Nat) (ps : List (Nat × Nat)) where
  again : Bool
  g : Nat → M64
  mid : Mid n ps g
  done : again = false → ∀ i, i < n → okRow g i n
structure CLi (n : Nat) (ps : List (Nat × Nat)) (top : Nat) where
  again : Bool
  g : Nat → M64
  mid : Mid n ps g
  i : Nat
  hi : i ≤ n
  le : lackN g n + (if again then 1 else 0) ≤ top
  done : again = false → ∀ i', i' < i → okRow g i' n
structure CLk (n : Nat) (ps : List (Nat × Nat)) (top i : Nat) where
  again : Bool
  g : Nat → M64
  mid : Mid n ps g
  k : Nat
  hk : k ≤ n
  le : lackN g n + (if again then 1 else 0) ≤ top
  done : again = false → (∀ i', i' < i → okRow g i' n) ∧ okRow g i k
theorem mid_step {n : Nat} {ps : List (Nat × Nat)} (hps : ∀ p ∈ ps, p.1 < n ∧ p.2 < n) {g : Nat → M64} (h : Mid n ps g) {i k : Nat} (hi : i < n) (hk : k < n) (hb : bit (g i) k = true) : Mid n ps (fun r => if r = i then g i ||| g k else g r) := by
  have hc := closed_ok (n := n) hps
  refine ⟨fun r j hr hj => ?_, fun r j hr hj => ?_⟩
  · by_cases e : r = i
    · subst e
      rw [if_pos rfl, bit_or, h.base r j hr hj]; rfl
    · rw [if_neg e]; exact h.base r j hr hj
  · by_cases e : r = i
    · subst e
      rw [if_pos rfl, bit_or, Bool.or_eq_true] at hj
      rcases hj with hj | hj
      · exact h.sub r j hr hj
      · exact hc.tr r k j hr hk hk (h.sub r k hr hb) (h.sub k j hk hj)
    · rw [if_neg e] at hj; exact h.sub r j hr hj
theorem rone_row (ps : List (Nat × Nat)) : ∀ r, r < 64 → one r = pairRow [] r := fun r h => (pairRow_nil h).symm
theorem with_or (m : M64) {b : Nat} (hb : b < 64) : withM m (b : Int) = m ||| one b := m_ext fun j hj => by
  rw [bit_withM, bit_or, bit_one hb]
  by_cases e : j = b
  · subst e; simp [hj]
  · have : ¬ ((j : Int) = (b : Int)) := by omega
    simp [e, this]
set_option maxHeartbeats 8000000 in
theorem rclose_spec (n : Nat) (ps : List (Nat × Nat)) (h1 : 1 ≤ n) (h64 : n ≤ 64) (hps : ∀ p ∈ ps, p.1 < n ∧ p.2 < n) (hl : inI64 (ps.length : Int)) : Pure PG 57 [vi (n : Int), vPairs ps] (vU (closeM n ps)) [] := by
  refine Proc.mk (cfg 94) tysOK [] Tryd.func57 rfl (by kernel_rfl) rfl rfl rfl ?_
  intro C x
  unfold inI64 at hl
  refine x.loop (α := { i : Nat // i ≤ n }) (fun y => ⟨[(0, vi (n : Int)), (1, vPairs ps), (5, .own 0), (6, vi (y.1 : Int))], [(0, vecU n fun r => if r < y.1 then one r else 0#64)], 1⟩) (fun y => n - y.1) ⟨0, by omega⟩ rfl ?_ ?_ (fun y => ?_)
  · simp only [AllP, big, Int.toNat_natCast]; omega
  · refine ⟨⟨rfl, veq_d rfl, rfl, rfl, trivial⟩, ⟨⟨rfl, rfl, Int.toNat_natCast _, fun r hr => ?_⟩, trivial⟩, rfl⟩
    show [D.int .u64 0] = [dm (if r < 0 then one r else 0#64)]
    rw [if_neg (by omega)]; rfl
  obtain ⟨i, hi⟩ := y
  change Go C _ ⟨[(0, vi (n : Int)), (1, vPairs ps), (5, .own 0), (6, vi (i : Int))], [(0, vecU n fun r => if r < i then one r else 0#64)], 1⟩ _
  refine x.cond rfl trivial (fun h2 => ?_) (fun h2 => ?_)
  · have h2 : i < n := by have := of_decide_eq_true h2; omega
    refine x.pure rfl trivial rfl (rone_spec i (by omega)) ⟨rfl, trivial⟩ ?_
    refine x.back rfl ?_ ⟨⟨i + 1, by omega⟩, by show n - (i + 1) < n - i; omega, ?_⟩
    · simp only [AllP, List.length, Int.toNat_natCast, inI64]; omega
    · refine ⟨⟨rfl, veq_d rfl, rfl, (show VEq0 (vi ((i : Int) + 1)) (vi ((i + 1 : Nat) : Int)) by rw [Int.natCast_add]; rfl), trivial⟩, ⟨⟨rfl, rfl, rfl, fun r hr => ?_⟩, trivial⟩, rfl⟩
      show put2 (fun r => [dm (if r < i then one r else 0#64)]) i 0 [dm (one i)] r = [dm (if r < i + 1 then one r else 0#64)]
      rw [put2_int]
      show [D.int .u64 (if r = i then _ else _)] = _
      by_cases e : r = i
      · rw [if_pos e, if_pos (by omega), e]
      · rw [if_neg e]
        by_cases e2 : r < i
        · rw [if_pos e2, if_pos (by omega)]
        · rw [if_neg e2, if_neg (by omega)]
  have h2 : i = n := by have := of_decide_eq_false h2; omega
  subst h2
  refine x.loop (α := { j : Nat // j ≤ ps.length }) (fun y => ⟨[(0, vi (i : Int)), (1, vPairs ps), (5, .own 0), (7, vi (y.1 : Int))], [(0, vecU i fun r => pairRow (ps.take y.1) r)], 1⟩) (fun y => ps.length - y.1) ⟨0, by omega⟩ rfl trivial ?_ (fun y => ?_)
  · refine ⟨⟨rfl, veq_d rfl, rfl, rfl, trivial⟩, ⟨⟨rfl, rfl, rfl, fun r hr => ?_⟩, trivial⟩, rfl⟩
    show [dm (if r < i then one r else 0#64)] = [dm (pairRow [] r)]
    rw [if_pos hr, pairRow_nil (by omega)]
  obtain ⟨j, hj⟩ := y
  change Go C _ ⟨[(0, vi (i : Int)), (1, vPairs ps), (5, .own 0), (7, vi (j : Int))], [(0, vecU i fun r => pairRow (ps.take j) r)], 1⟩ _
  refine x.cond rfl trivial (fun h3 => ?_) (fun h3 => ?_)
  · have h3 : j < ps.length := by have := of_decide_eq_true h3; omega
    have hgD : ps.getD j (0, 0) = ps[j] := by rw [List.getD_eq_getElem?_getD, List.getElem?_eq_getElem h3]; rfl
    have hq : ps.getD j (0, 0) ∈ ps := by rw [hgD]; exact List.getElem_mem h3
    obtain ⟨p1, p2⟩ := hps _ hq
    refine x.plan [0, 6] [1, 2, 3, 4, 5, 7, 8, 9, 10, 11, 12, 13, 14, 15, 16, 17, 18, 19, 20] [21] rfl trivial mixedP (by kernel_rfl) Ret.noPanic ?_
    refine x.qcall rfl ?_ rfl (rwith_spec (pairRow (ps.take j) (ps.getD j (0, 0)).1) (ps.getD j (0, 0)).2 (by omega)) rfl rfl ⟨rfl, rfl, trivial⟩ ?_
    · simp only [AllP, Int.toNat_natCast]
      refine ⟨by omega, by decide, by omega, by decide, ⟨by omega, by omega⟩, p1, by omega, by decide⟩
    refine x.qdone rfl (by simp only [AllP, Int.toNat_natCast]; omega) ?_
    refine x.back rfl ?_ ⟨⟨j + 1, by omega⟩, by show ps.length - (j + 1) < ps.length - j; omega, ?_⟩
    · simp only [AllP, List.length, Int.toNat_natCast, inI64]; omega
    · refine ⟨⟨rfl, veq_d rfl, rfl, (show VEq0 (vi ((j : Int) + 1)) (vi ((j + 1 : Nat) : Int)) by rw [Int.natCast_add]; rfl), trivial⟩, ⟨⟨rfl, rfl, rfl, fun r hr => ?_⟩, trivial⟩, rfl⟩
      show put2 (fun r => [dm (pairRow (ps.take j) r)]) (ps.getD j (0, 0)).1 0 [dm (pairRow (ps.take j) (ps.getD j (0, 0)).1 ||| one (ps.getD j (0, 0)).2)] r = [dm (pairRow (ps.take (j + 1)) r)]
      have e : ps.take (j + 1) = ps.take j ++ [((ps.getD j (0, 0)).1, (ps.getD j (0, 0)).2)] := by rw [take_succ (a := ps[j]) (List.getElem?_eq_getElem h3), hgD]
      rw [put2_int, e, pairRow_snoc (by omega), with_or _ (by omega)]
      show [D.int .u64 (if r = _ then _ else _)] = [dm (if r = _ then _ else _)]
      split <;> rfl
  have h3 : j = ps.length := by have := of_decide_eq_false h3; omega
  subst h3
  rw [List.take_length]
  refine x.loop (α := CL i ps) (fun y => ⟨[(0, vi (i : Int)), (1, vPairs ps), (5, .own 0), (8, vb y.again)], [(0, vecU i y.g)], 1⟩) (fun y => lackN y.g i + (if y.again then 1 else 0)) ⟨true, pairRow ps, ⟨fun _ _ _ h => h, fun r j hr h => (closed_ok hps).base r j hr h⟩, fun h => by cases h⟩ rfl trivial ?_ (fun y => ?_)
  · exact ⟨⟨rfl, veq_d rfl, rfl, rfl, trivial⟩, ⟨⟨rfl, rfl, rfl, fun r hr => rfl⟩, trivial⟩, rfl⟩
  obtain ⟨again, g, mid, done⟩ := y
  change Go C _ ⟨[(0, vi (i : Int)), (1, vPairs ps), (5, .own 0), (8, vb again)], [(0, vecU i g)], 1⟩ _
  refine x.cond rfl trivial (fun h4 => ?_) (fun h4 => ?_)
  rotate_left
  · have h4 : again = false := h4
    have hd := done h4
    have hg : ∀ r, r < i → g r = closed i ps r := fun r hr => close_unique hps mid.base mid.sub (fun a m j ha hm _ e1 e2 => by
      have := hd a ha m hm e1
      exact or_sub.1 (by rw [← this]; exact (or_sub.2 fun q hq => by rw [bit_or, hq, Bool.or_true])) j e2) hr
    refine Sx.Go.freeze 0 ?_
    refine x.exit rfl trivial ⟨.inr rfl, ?_, trivial, rfl⟩
    exact ⟨(close_len i ps).symm, fun _ => rfl, fun r hr => by show [dm (g r)] = [dm (upA (closeM i ps) r)]; rw [close_at hr, hg r hr]⟩
  have h4 : again = true := h4
  subst h4
  refine x.loop (α := CLi i ps (lackN g i)) (fun y => ⟨[(0, vi (i : Int)), (1, vPairs ps), (5, .own 0), (8, vb y.again), (9, vi (y.i : Int))], [(0, vecU i y.g)], 1⟩) (fun y => i - y.i) ⟨false, g, mid, 0, by omega, Nat.le_refl _, fun _ i' hi' => by omega⟩ rfl trivial ?_ (fun y => ?_)
  · exact ⟨⟨rfl, veq_d rfl, rfl, rfl, rfl, trivial⟩, ⟨⟨rfl, rfl, rfl, fun r hr => rfl⟩, trivial⟩, rfl⟩
  obtain ⟨ag, g1, mid1, a, ha, le1, done1⟩ := y
  change Go C _ ⟨[(0, vi (i : Int)), (1, vPairs ps), (5, .own 0), (8, vb ag), (9, vi (a : Int))], [(0, vecU i g1)], 1⟩ _
  refine x.cond rfl trivial (fun h5 => ?_) (fun h5 => ?_)
  rotate_left
  · have h5 : a = i := by have := of_decide_eq_false h5; omega
    subst h5
    refine x.back rfl trivial ⟨⟨ag, g1, mid1, done1⟩, by show lackN g1 a + (if ag = true then 1 else 0) < lackN g a + 1; omega, ⟨rfl, veq_d rfl, rfl, rfl, trivial⟩, ⟨⟨rfl, rfl, rfl, fun r hr => rfl⟩, trivial⟩, rfl⟩
  have h5 : a < i := by have := of_decide_eq_true h5; omega
  refine x.loop (α := CLk i ps (lackN g i) a) (fun y => ⟨[(0, vi (i : Int)), (1, vPairs ps), (5, .own 0), (8, vb y.again), (9, vi (a : Int)), (10, vi (y.k : Int))], [(0, vecU i y.g)], 1⟩) (fun y => i - y.k) ⟨ag, g1, mid1, 0, by omega, le1, fun h => ⟨done1 h, fun k hk => by omega⟩⟩ rfl trivial ?_ (fun y => ?_)
  · exact ⟨⟨rfl, veq_d rfl, rfl, rfl, rfl, rfl, trivial⟩, ⟨⟨rfl, rfl, rfl, fun r hr => rfl⟩, trivial⟩, rfl⟩
  obtain ⟨ag2, g2, mid2, k, hk, le2, done2⟩ := y
  change Go C _ ⟨[(0, vi (i : Int)), (1, vPairs ps), (5, .own 0), (8, vb ag2), (9, vi (a : Int)), (10, vi (k : Int))], [(0, vecU i g2)], 1⟩ _
  refine x.cond rfl trivial (fun h6 => ?_) (fun h6 => ?_)
  rotate_left
  · have h6 : k = i := by have := of_decide_eq_false h6; omega
    subst h6
    refine x.back rfl ?_ ⟨⟨ag2, g2, mid2, a + 1, by omega, le2, fun h i' hi' => ?_⟩, by show k - (a + 1) < k - a; omega, ⟨rfl, veq_d rfl, rfl, rfl, (show VEq0 (vi ((a : Int) + 1)) (vi ((a + 1 : Nat) : Int)) by rw [Int.natCast_add]; rfl), trivial⟩, ⟨⟨rfl, rfl, rfl, fun r hr => rfl⟩, trivial⟩, rfl⟩
    · simp only [AllP, inI64]; omega
    · obtain ⟨d1, d2⟩ := done2 h
      by_cases e : i' = a
      · subst e; exact d2
      · exact d1 i' (by omega)
  have h6 : k < i := by have := of_decide_eq_true h6; omega
  have hA : Pure PG 96 [.d (.sl 1 i fun r => [dm (g2 r)]), vi (a : Int), vi (k : Int)] (vb (bit (g2 a) k)) [] := by
    have hlen : ((List.range i).map g2).length = i := by simp
    have hat : ∀ r, r < i → upA ((List.range i).map g2) r = g2 r := fun r hr => by
      unfold upA
      rw [List.getD_eq_getElem?_getD, List.getElem?_map, List.getElem?_range hr]; rfl
    have h := above_spec ((List.range i).map g2) a k (by rw [hlen]; exact h5) (by omega)
    rw [hat a h5] at h
    refine Pure.args (args := [vU ((List.range i).map g2), vi (a : Int), vi (k : Int)]) h ⟨⟨hlen.symm, fun _ => rfl, fun r hr => ?_⟩, rfl, rfl, trivial⟩ rfl
    show [dm (g2 r)] = [dm (upA ((List.range i).map g2) r)]
    rw [hat r hr]
  refine x.quiet rfl trivial mixedP (by kernel_rfl) ?_
  refine x.qcallB rfl trivial rfl hA rfl rfl ⟨veq_d rfl, rfl, rfl, trivial⟩ ?_
  refine x.qdone rfl ?_ ?_
  · exact ⟨fun _ => by omega, fun _ => by omega, fun _ => by omega, fun _ => by omega, fun _ => by omega, fun _ => by omega⟩
  have hor : decide (bitI .or .u64 ((g2 a).toNat : Int) ((g2 k).toNat : Int) = ((g2 a).toNat : Int)) = decide (g2 a ||| g2 k = g2 a) := by
    rw [or_m, decide_eq_decide]
    exact ⟨fun h => BitVec.eq_of_toNat_eq (by omega), fun h => by rw [h]⟩
  refine x.cond rfl trivial (fun h7 => ?_) (fun h7 => ?_)
  · have h7 : (bit (g2 a) k && !decide (bitI .or .u64 ((g2 a).toNat : Int) ((g2 k).toNat : Int) = ((g2 a).toNat : Int))) = true := h7
    rw [hor] at h7
    simp only [Bool.and_eq_true, Bool.not_eq_true', decide_eq_false_iff_not] at h7
    obtain ⟨hb, hne⟩ := h7
    refine x.plan [0, 1, 2, 3, 6, 7] [4, 5, 8, 9, 10, 11] [12] rfl trivial mixedP (by kernel_rfl) Ret.noPanic ?_
    refine x.qdone rfl (by simp only [AllP]; omega) ?_
    have hlt : lackN (fun r => if r = a then g2 a ||| g2 k else g2 r) i < lackN g2 i := lackN_set (lack_lt (fun j hj => by rw [bit_or, hj]; rfl) (fun e => hne e.symm)) h5
    refine x.back rfl ?_ ⟨⟨true, fun r => if r = a then g2 a ||| g2 k else g2 r, mid_step hps mid2 h5 h6 hb, k + 1, by omega, by show lackN _ i + 1 ≤ _; omega, fun h => by cases h⟩, by show i - (k + 1) < i - k; omega, ⟨rfl, veq_d rfl, rfl, rfl, rfl, (show VEq0 (vi ((k : Int) + 1)) (vi ((k + 1 : Nat) : Int)) by rw [Int.natCast_add]; rfl), trivial⟩, ⟨⟨rfl, rfl, rfl, fun r hr => ?_⟩, trivial⟩, rfl⟩
    · simp only [AllP, List.length, Int.toNat_natCast, inI64]; omega
    · show put2 (fun r => [dm (g2 r)]) a 0 [D.int .u64 (bitI .or .u64 ((g2 a).toNat : Int) ((g2 k).toNat : Int))] r = [dm (if r = a then g2 a ||| g2 k else g2 r)]
      rw [put2_int, or_m]
      show [D.int .u64 (if r = _ then _ else _)] = [dm (if r = _ then _ else _)]
      split <;> rfl
  · have h7 : (bit (g2 a) k && !decide (bitI .or .u64 ((g2 a).toNat : Int) ((g2 k).toNat : Int) = ((g2 a).toNat : Int))) = false := h7
    rw [hor] at h7
    refine x.back rfl ?_ ⟨⟨ag2, g2, mid2, k + 1, by omega, le2, fun h => ⟨(done2 h).1, fun k' hk' hb => ?_⟩⟩, by show i - (k + 1) < i - k; omega, ⟨rfl, veq_d rfl, rfl, rfl, rfl, (show VEq0 (vi ((k : Int) + 1)) (vi ((k + 1 : Nat) : Int)) by rw [Int.natCast_add]; rfl), trivial⟩, ⟨⟨rfl, rfl, rfl, fun r hr => rfl⟩, trivial⟩, rfl⟩
    · simp only [AllP, inI64]; omega
    · by_cases e : k' = k
      · subst e
        rw [hb, Bool.true_and] at h7
        simpa using h7
      · exact (done2 h).2 k' (by omega) hb
end Go.Proofs.YtcdfjaaipbjpnaaDoor

/- Policies: the answer's Build. -/
namespace Go.Proofs.YtcdfjaaipbjpnaaDoor
open Go.Sx
set_option linter.unusedVariables false
set_option linter.unusedSimpArgs false
set_option maxRecDepth 100000

set_option maxHeartbeats 4000000 in
theorem rbuild_spec (n : Nat) (ps : List (Nat × Nat)) (h1 : 1 ≤ n) (h64 : n ≤ 64) (hps : ∀ p ∈ ps, p.1 < n ∧ p.2 < n) (hl : inI64 (ps.length : Int)) :
    Pure PG 32 [vi (n : Int), vPairs ps] (.tup [vU (if rightM (closeM n ps) then closeM n ps else []), vi (if rightM (closeM n ps) then 0 else 11)]) [] := by
  refine Proc.mk (cfg 49) tysOK [] Tryd.func32 rfl (by kernel_rfl) rfl rfl rfl ?_
  intro C x
  have hl0 := hl
  unfold inI64 at hl
  refine x.cond rfl trivial (fun h => ?_) (fun _ => ?_)
  · have h : (decide ((n : Int) < 1) || decide (64 < (n : Int))) = true := h
    simp only [Bool.or_eq_true, decide_eq_true_eq] at h
    omega
  refine x.loop (α := { i : Nat // i ≤ ps.length }) (fun y => ⟨[(0, vi (n : Int)), (1, vPairs ps), (6, vi (y.1 : Int))], [], 0⟩) (fun y => ps.length - y.1) ⟨0, by omega⟩ rfl trivial ⟨⟨rfl, veq_d rfl, rfl, trivial⟩, trivial, rfl⟩ (fun y => ?_)
  obtain ⟨i, hi⟩ := y
  change Go C _ ⟨[(0, vi (n : Int)), (1, vPairs ps), (6, vi (i : Int))], [], 0⟩ _
  refine x.cond rfl trivial (fun h2 => ?_) (fun h2 => ?_)
  · have h2 : i < ps.length := by have := of_decide_eq_true h2; omega
    have hgD : ps.getD i (0, 0) = ps[i] := by rw [List.getD_eq_getElem?_getD, List.getElem?_eq_getElem h2]; rfl
    have hq : ps.getD i (0, 0) ∈ ps := by rw [hgD]; exact List.getElem_mem h2
    obtain ⟨p1, p2⟩ := hps _ hq
    refine x.loop (α := { k : Nat // k ≤ 2 }) (fun y => ⟨[(0, vi (n : Int)), (1, vPairs ps), (6, vi (i : Int)), (7, vi (y.1 : Int))], [], 0⟩) (fun y => 2 - y.1) ⟨0, by omega⟩ rfl trivial ⟨⟨rfl, veq_d rfl, rfl, rfl, trivial⟩, trivial, rfl⟩ (fun y => ?_)
    obtain ⟨k, hk⟩ := y
    have hk3 : k = 0 ∨ k = 1 ∨ k = 2 := by omega
    rcases hk3 with rfl | rfl | rfl
    · change Go C _ ⟨[(0, vi (n : Int)), (1, vPairs ps), (6, vi (i : Int)), (7, vi 0)], [], 0⟩ _
      refine x.cond rfl trivial (fun h3 => ?_) (fun h3 => absurd (show decide ((0 : Int) < 2) = false from h3) (by decide))
      refine x.cond rfl ?_ (fun h4 => ?_) (fun h4 => ?_)
      · exact ⟨by omega, by decide, fun _ => by omega, fun _ => by decide⟩
      · exfalso
        have h4 : (decide (((ps.getD i (0, 0)).1 : Int) < 0) || decide ((n : Int) ≤ ((ps.getD i (0, 0)).1 : Int))) = true := h4
        simp only [Bool.or_eq_true, decide_eq_true_eq] at h4
        omega
      · exact x.back rfl (by simp only [AllP, inI64]; omega) ⟨⟨1, by omega⟩, by show 2 - 1 < 2 - 0; omega, ⟨rfl, veq_d rfl, rfl, rfl, trivial⟩, trivial, rfl⟩
    · change Go C _ ⟨[(0, vi (n : Int)), (1, vPairs ps), (6, vi (i : Int)), (7, vi 1)], [], 0⟩ _
      refine x.cond rfl trivial (fun h3 => ?_) (fun h3 => absurd (show decide ((1 : Int) < 2) = false from h3) (by decide))
      refine x.cond rfl ?_ (fun h4 => ?_) (fun h4 => ?_)
      · exact ⟨by omega, by decide, fun _ => by omega, fun _ => by decide⟩
      · exfalso
        have h4 : (decide (((ps.getD i (0, 0)).2 : Int) < 0) || decide ((n : Int) ≤ ((ps.getD i (0, 0)).2 : Int))) = true := h4
        simp only [Bool.or_eq_true, decide_eq_true_eq] at h4
        omega
      · exact x.back rfl (by simp only [AllP, inI64]; omega) ⟨⟨2, by omega⟩, by show 2 - 2 < 2 - 1; omega, ⟨rfl, veq_d rfl, rfl, rfl, trivial⟩, trivial, rfl⟩
    · change Go C _ ⟨[(0, vi (n : Int)), (1, vPairs ps), (6, vi (i : Int)), (7, vi 2)], [], 0⟩ _
      refine x.cond rfl trivial (fun h3 => absurd (show decide ((2 : Int) < 2) = true from h3) (by decide)) (fun h3 => ?_)
      refine x.back rfl ?_ ⟨⟨i + 1, by omega⟩, by show ps.length - (i + 1) < ps.length - i; omega, ⟨rfl, veq_d rfl, (show VEq0 (vi ((i : Int) + 1)) (vi ((i + 1 : Nat) : Int)) by rw [Int.natCast_add]; rfl), trivial⟩, trivial, rfl⟩
      simp only [AllP, inI64]; omega
  refine x.pure rfl trivial rfl (rclose_spec n ps h1 h64 hps hl0) ⟨rfl, veq_d rfl, trivial⟩ ?_
  refine x.pure rfl trivial rfl (rright_spec (closeM n ps) (by rw [close_len]; unfold inI64; omega)) ⟨veq_d rfl, trivial⟩ ?_
  rw [right_eq]
  refine x.cond rfl trivial (fun h7 => ?_) (fun h7 => ?_)
  · have h7 : (!rightM (closeM n ps)) = true := h7
    have h7 : rightM (closeM n ps) = false := by simpa using h7
    refine x.exit rfl trivial ⟨.inr rfl, ?_, trivial, rfl⟩
    rw [h7]
    exact ⟨rfl, rfl, trivial⟩
  · have h7 : (!rightM (closeM n ps)) = false := h7
    have h7 : rightM (closeM n ps) = true := by simpa using h7
    refine x.exit rfl trivial ⟨.inr rfl, ?_, trivial, rfl⟩
    rw [h7]
    exact ⟨veq0_d rfl, rfl, trivial⟩
end Go.Proofs.YtcdfjaaipbjpnaaDoor

/- Policies: the answer's Parse. -/
namespace Go.Proofs.YtcdfjaaipbjpnaaDoor
open Go.Sx
set_option linter.unusedVariables false
set_option linter.unusedSimpArgs false
set_option maxRecDepth 100000

structure LS (s : ByteArray) where
  i : Nat
  fro : Nat
  r : Rdr
  ls : List ByteArray
  k : Nat
  hi : i ≤ s.size + 1
  hf : fro ≤ i
  live : i ≤ s.size → ls.map tl = linesG (tl (s.extract fro i)) ((tl s).drop i)
  fin : i = s.size + 1 → ls = []
  same : linesF ls fro r = linesF (linesL s) 0 rdr0
  hk : Kept r k
  hn : k ≤ i
theorem ls_step {s : ByteArray} {i fro : Nat} {ls : List ByteArray} (hi : i ≤ s.size) (h : ls.map tl = linesG (tl (s.extract fro i)) ((tl s).drop i)) (hb : i = s.size ∨ byt s i = 10) :
    ∃ rest, ls = s.extract fro i :: rest ∧ (i < s.size → rest.map tl = linesG [] ((tl s).drop (i + 1))) ∧ (i = s.size → rest = []) := by
  have cut : ∀ m, ls.map tl = tl (s.extract fro i) :: m → ∃ rest, ls = s.extract fro i :: rest ∧ rest.map tl = m := fun m e => by
    match ls, e with
    | l :: rest, e =>
      simp only [List.map_cons, List.cons.injEq] at e
      refine ⟨rest, ?_, e.2⟩
      rw [ba_eq l, ba_eq (s.extract fro i), show l.data.toList = (s.extract fro i).data.toList from e.1]
  by_cases e : i = s.size
  · subst e
    rw [show (tl s).drop s.size = [] from List.drop_eq_nil_of_le (by rw [size_l]; exact Nat.le_refl _), linesG] at h
    obtain ⟨rest, h1, h2⟩ := cut [] h
    refine ⟨rest, h1, fun q => by omega, fun _ => ?_⟩
    cases rest with
    | nil => rfl
    | cons a b => cases h2
  · have h10 : byt s i = 10 := hb.elim (fun q => absurd q e) id
    rw [show (tl s).drop i = byt s i :: (tl s).drop (i + 1) from drop_byt (by omega), linesG, if_pos h10] at h
    obtain ⟨rest, h1, h2⟩ := cut _ h
    exact ⟨rest, h1, fun _ => h2, fun q => absurd q e⟩
theorem lead_index (l : ByteArray) (h : 0 < (fieldsL l).length) : Lib.index l.data.toList (w_ (fieldsL l) 0).data.toList = (lead (tl l) : Int) := by
  have e := fields_words l
  match hf : fieldsL l, h with
  | w :: ws, _ =>
    rw [hf, List.map_cons] at e
    exact index_first _ _ _ e.symm

set_option maxHeartbeats 8000000 in
theorem rparse_spec (s : ByteArray) (hs : s.size ≤ 9223372036854775807) : Pure PG 9 [vs s] (vParse (parseP s)) [] := by
  refine Proc.mk (cfg 109) tysOK [] Tryd.func9 rfl (by kernel_rfl) rfl rfl rfl ?_
  intro C x
  refine x.cond rfl trivial (fun h1 => ?_) (fun h1 => ?_)
  · have h1 : 65536 < s.size := by have := of_decide_eq_true h1; omega
    rw [parseP, if_pos h1]
    refine x.leExit ?_
    exact x.exit rfl trivial ⟨⟨[(2, .ptr 0 0), (3, vi 0), (4, vi 2)], [(0, .box [vSs [], vU [], vChs [], vChs [], vi 0])], 1⟩, ⟨⟨⟨rfl, rfl⟩, rfl, rfl, trivial⟩, ⟨⟨rfl, rfl, rfl, rfl, rfl, trivial⟩, trivial⟩, rfl⟩, .inr rfl, ⟨rfl, rfl, rfl, trivial⟩, trivial, rfl⟩
  have h1 : ¬ 65536 < s.size := by have := of_decide_eq_false h1; omega
  refine x.pure rfl trivial rfl (bad_spec s hs) ⟨rfl, trivial⟩ ?_
  refine x.cond rfl trivial (fun h2 => ?_) (fun h2 => ?_)
  · have h2 : 0 ≤ badV s s.size 0 := of_decide_eq_true h2
    rw [parseP, if_neg h1, if_pos h2]
    refine x.leExit ?_
    exact x.exit rfl trivial ⟨⟨[(2, .ptr 0 0), (3, vi (badV s s.size 0)), (4, vi 5)], [(0, .box [vSs [], vU [], vChs [], vChs [], vi 0])], 1⟩, ⟨⟨⟨rfl, rfl⟩, rfl, rfl, trivial⟩, ⟨⟨rfl, rfl, rfl, rfl, rfl, trivial⟩, trivial⟩, rfl⟩, .inr rfl, ⟨rfl, rfl, rfl, trivial⟩, trivial, rfl⟩
  have h2 : ¬ 0 ≤ badV s s.size 0 := of_decide_eq_false h2
  refine x.loop (α := LS s) (fun y => ⟨[(0, vs s), (2, .ptr 0 0), (3, vi 0), (4, vi 0), (6, .ptr 1 0), (7, vPairs y.r.flows), (8, vi (y.fro : Int)), (9, vi (y.i : Int))],
    [(0, .box [.nils, .nils, .nils, .nils, vi 0]), (1, polC y.r)], 2⟩) (fun y => s.size + 1 - y.i) ⟨0, 0, rdr0, linesL s, 0, by omega, by omega, fun _ => by rw [show (linesL s).map tl = _ from lines_lines s]; simp [tl], fun h => by omega, rfl, kept0, by omega⟩ rfl trivial ?_ (fun y => ?_)
  · exact ⟨⟨rfl, ⟨rfl, rfl⟩, rfl, rfl, ⟨rfl, rfl⟩, rfl, rfl, rfl, trivial⟩, ⟨⟨trivial, trivial, trivial, trivial, rfl, trivial⟩, ⟨rfl, rfl, rfl, rfl, rfl, trivial⟩, trivial⟩, rfl⟩
  obtain ⟨i, fro, r, ls, k, hi, hf, live, fin, same, hk, hn⟩ := y
  change Go C _ ⟨[(0, vs s), (2, .ptr 0 0), (3, vi 0), (4, vi 0), (6, .ptr 1 0), (7, vPairs r.flows), (8, vi (fro : Int)), (9, vi (i : Int))],
    [(0, .box [.nils, .nils, .nils, .nils, vi 0]), (1, polC r)], 2⟩ _
  refine x.cond rfl trivial (fun h3 => ?_) (fun h3 => ?_)
  · have h3 : i ≤ s.size := by have := of_decide_eq_true h3; omega
    have live := live h3
    have e0 : decide ((i : Int) < (s.size : Int)) = decide (i < s.size) := by rw [decide_eq_decide]; omega
    refine x.cond rfl ?_ (fun h4 => ?_) (fun h4 => ?_)
    · exact fun h => by have := of_decide_eq_true h; omega
    · have h4 : (decide ((i : Int) < (s.size : Int)) && !decide (sb s i = 10)) = true := h4
      rw [e0, Bool.and_eq_true, decide_eq_true_eq, Bool.not_eq_true', decide_eq_false_iff_not] at h4
      have h10 : ¬ byt s i = 10 := fun e => h4.2 ((sbE s i 10).2 e)
      refine x.back rfl ?_ ⟨⟨i + 1, fro, r, ls, k, by omega, by omega, fun _ => ?_, fun h => by omega, same, hk, by omega⟩, by show s.size + 1 - (i + 1) < s.size + 1 - i; omega, ?_⟩
      · simp only [AllP, inI64]; omega
      · rw [show (tl s).drop i = byt s i :: (tl s).drop (i + 1) from drop_byt h4.1, linesG, if_neg h10] at live
        rw [live]
        congr 1
        have := ext_more (s := s) (a := fro) (p := i) (w := 1) hf (by omega)
        rw [drop_byt h4.1] at this
        exact this.symm
      · exact ⟨⟨rfl, ⟨rfl, rfl⟩, rfl, rfl, ⟨rfl, rfl⟩, veq_d rfl, rfl, (show VEq0 (vi ((i : Int) + 1)) (vi ((i + 1 : Nat) : Int)) by rw [Int.natCast_add]; rfl), trivial⟩, ⟨⟨trivial, trivial, trivial, trivial, rfl, trivial⟩, polC_eq r, trivial⟩, rfl⟩
    have h4 : (decide ((i : Int) < (s.size : Int)) && !decide (sb s i = 10)) = false := h4
    rw [e0] at h4
    have h10 : i = s.size ∨ byt s i = 10 := by
      by_cases e : i < s.size
      · rw [decide_eq_true e, Bool.true_and, Bool.not_eq_false', decide_eq_true_eq] at h4
        exact .inr ((sbE s i 10).1 h4)
      · exact .inl (by omega)
    obtain ⟨rest, rfl, n1, n2⟩ := ls_step h3 live h10
    obtain ⟨l, hl⟩ : ∃ l, s.extract fro i = l := ⟨_, rfl⟩
    have hlz : l.size = i - fro := by rw [← hl, ByteArray.size_extract]; omega
    obtain ⟨f1, f2⟩ := fields_ok l
    rw [hl, linesF] at same
    have nxt : ∀ {r' k'}, Kept r' k' → k' ≤ i + 1 → linesF rest ((fro : Int) + (l.size + 1)) r' = linesF (linesL s) 0 rdr0 → ∃ y : LS s, y.i = i + 1 ∧ y.fro = i + 1 ∧ y.r = r' := fun {r' k'} hk' hn' hs' =>
      ⟨⟨i + 1, i + 1, r', rest, k', by omega, Nat.le_refl _, fun h => by
        rw [n1 (by omega), show tl (s.extract (i + 1) (i + 1)) = [] from by rw [tl, ext_l, Nat.sub_self, List.take_zero]], fun h => n2 (by omega), by
        rw [← hs']; congr 1; omega, hk', hn'⟩, rfl, rfl, rfl⟩
    refine x.pure rfl ?_ rfl (rwords_spec l (by omega)) ⟨?_, trivial⟩ ?_
    · simp only [AllP]; omega
    · show VEq0 (vs (s.extract fro i)) (vs l)
      rw [hl]; exact rfl
    refine x.cond rfl ?_ (fun h5 => ?_) (fun h5 => ?_)
    · simp only [AllP, decide_eq_true_eq]
      refine ⟨fun h => ⟨by decide, h⟩, fun h => ⟨by decide, ?_⟩⟩
      have h : 0 < (fieldsL l).length := by omega
      have := (f1 ((fieldsL l).getD 0 .empty) (by rw [List.getD_eq_getElem?_getD, List.getElem?_eq_getElem h]; exact List.getElem_mem h)).1
      show (0 : Int) < (((fieldsL l).getD 0 .empty).size : Int)
      omega
    · have h5 : says (fieldsL l) = true := by
        refine Eq.trans ?_ h5
        unfold says
        congr 1
        rw [decide_eq_decide]; omega
      have h0 : 0 < (fieldsL l).length := by
        unfold says at h5
        simp only [Bool.and_eq_true, decide_eq_true_eq] at h5
        exact h5.1
      rw [if_pos h5] at same
      refine x.pure rfl trivial rfl (rline_spec r hk.toSmall (fieldsL l) (by omega) (by unfold inI64; omega) (fun f hf => by have := (f1 f hf).2; omega)) ⟨⟨veq0_d rfl, veq0_d rfl, veq0_d rfl, veq0_d rfl, rfl, trivial⟩, veq_d rfl, veq_d rfl, trivial⟩ ?_
      refine x.cond rfl trivial (fun h6 => ?_) (fun h6 => ?_)
      · have h6 : (!decide ((readR r (fieldsL l)).2 = 0)) = true := h6
        have h6 : (readR r (fieldsL l)).2 ≠ 0 := by simpa using h6
        rw [if_pos h6, lead_index l h0] at same
        have hp : parseP s = (pol0, (fro : Int) + (lead (tl l) : Int), (readR r (fieldsL l)).2) := by
          rw [parseP, if_neg h1, if_neg h2, ← same]
        have hle := lead_le (tl l)
        rw [size_l] at hle
        refine x.pure rfl ?_ rfl (rfirst_spec l (by omega)) ⟨?_, trivial⟩ ?_
        · simp only [AllP]; omega
        · show VEq0 (vs (s.extract fro i)) (vs l)
          rw [hl]; exact rfl
        rw [hp]
        refine x.leExit ?_
        refine x.exit rfl ?_ ⟨⟨[(2, .ptr 0 0), (3, vi ((fro : Int) + (lead (tl l) : Int))), (4, vi (readR r (fieldsL l)).2)], [(0, .box [vSs [], vU [], vChs [], vChs [], vi 0])], 1⟩, ⟨⟨⟨rfl, rfl⟩, rfl, rfl, trivial⟩, ⟨⟨rfl, rfl, rfl, rfl, rfl, trivial⟩, trivial⟩, rfl⟩, .inr rfl, ⟨rfl, rfl, rfl, trivial⟩, trivial, rfl⟩
        simp only [AllP, inI64]; omega
      · have h6 : (!decide ((readR r (fieldsL l)).2 = 0)) = false := h6
        have h6 : ¬ (readR r (fieldsL l)).2 ≠ 0 := by simpa using h6
        rw [if_neg h6] at same
        obtain ⟨y, y1, y2, y3⟩ := nxt (kept_read hk (by omega) _) (by omega) same
        refine x.back rfl ?_ ⟨y, by show s.size + 1 - y.i < s.size + 1 - i; omega, ?_⟩
        · simp only [AllP, inI64]; omega
        · rw [y1, y2, y3]
          exact ⟨⟨rfl, ⟨rfl, rfl⟩, rfl, rfl, ⟨rfl, rfl⟩, veq_d rfl, (show VEq0 (vi ((i : Int) + 1)) (vi ((i + 1 : Nat) : Int)) by rw [Int.natCast_add]; rfl), (show VEq0 (vi ((i : Int) + 1)) (vi ((i + 1 : Nat) : Int)) by rw [Int.natCast_add]; rfl), trivial⟩, ⟨⟨trivial, trivial, trivial, trivial, rfl, trivial⟩, polC_eq _, trivial⟩, rfl⟩
    · have h5 : says (fieldsL l) = false := by
        refine Eq.trans ?_ h5
        unfold says
        congr 1
        rw [decide_eq_decide]; omega
      rw [if_neg (by rw [h5]; simp)] at same
      obtain ⟨y, y1, y2, y3⟩ := nxt ⟨hk.toSmall, Nat.le_succ_of_le hk.count, hk.flow⟩ (by omega) same
      refine x.back rfl ?_ ⟨y, by show s.size + 1 - y.i < s.size + 1 - i; omega, ?_⟩
      · simp only [AllP, inI64]; omega
      · rw [y1, y2, y3]
        exact ⟨⟨rfl, ⟨rfl, rfl⟩, rfl, rfl, ⟨rfl, rfl⟩, veq_d rfl, (show VEq0 (vi ((i : Int) + 1)) (vi ((i + 1 : Nat) : Int)) by rw [Int.natCast_add]; rfl), (show VEq0 (vi ((i : Int) + 1)) (vi ((i + 1 : Nat) : Int)) by rw [Int.natCast_add]; rfl), trivial⟩, ⟨⟨trivial, trivial, trivial, trivial, rfl, trivial⟩, polC_eq _, trivial⟩, rfl⟩
  have h3 : i = s.size + 1 := by have := of_decide_eq_false h3; omega
  rw [fin h3] at same
  have hp : parseP s = endR s.size r := by
    rw [parseP, if_neg h1, if_neg h2, ← same]; rfl
  rw [hp]
  have hlev := hk.lev
  refine x.cond rfl trivial (fun h4 => ?_) (fun h4 => ?_)
  · have h4 : (decide ((r.lev.length : Int) = 0) || decide (r.depth = 0)) = true := h4
    have h4 : r.lev.length = 0 ∨ r.depth = 0 := by
      simp only [Bool.or_eq_true, decide_eq_true_eq] at h4
      omega
    rw [endR, if_pos h4]
    refine x.leExit ?_
    exact x.exit rfl trivial ⟨⟨[(2, .ptr 0 0), (3, vi (s.size : Int)), (4, vi 4)], [(0, .box [vSs [], vU [], vChs [], vChs [], vi 0])], 1⟩, ⟨⟨⟨rfl, rfl⟩, rfl, rfl, trivial⟩, ⟨⟨rfl, rfl, rfl, rfl, rfl, trivial⟩, trivial⟩, rfl⟩, .inr rfl, ⟨rfl, rfl, rfl, trivial⟩, trivial, rfl⟩
  have h4 : (decide ((r.lev.length : Int) = 0) || decide (r.depth = 0)) = false := h4
  have h4 : ¬ (r.lev.length = 0 ∨ r.depth = 0) := by
    simp only [Bool.or_eq_false_iff, decide_eq_false_iff_not] at h4
    omega
  rw [endR, if_neg h4]
  have hfl := hk.flows
  refine x.pure rfl trivial rfl (rbuild_spec r.lev.length r.flows (by omega) hlev hk.flow (by unfold inI64; omega)) ⟨rfl, veq_d rfl, trivial⟩ ?_
  by_cases hR : rightM (closeM r.lev.length r.flows) = true
  · simp only [if_pos hR]
    refine x.cond rfl trivial (fun h5 => ?_) (fun h5 => ?_)
    · cases h5
    · exact x.exit rfl trivial ⟨.inr rfl, ⟨rfl, rfl, rfl, trivial⟩, trivial, rfl⟩
  · simp only [if_neg hR]
    refine x.cond rfl trivial (fun h5 => ?_) (fun h5 => ?_)
    · refine x.leExit ?_
      exact x.exit rfl trivial ⟨⟨[(2, .ptr 0 0), (3, vi (s.size : Int)), (4, vi 11)], [(0, .box [vSs [], vU [], vChs [], vChs [], vi 0])], 1⟩, ⟨⟨⟨rfl, rfl⟩, rfl, rfl, trivial⟩, ⟨⟨rfl, rfl, rfl, rfl, rfl, trivial⟩, trivial⟩, rfl⟩, .inr rfl, ⟨rfl, rfl, rfl, trivial⟩, trivial, rfl⟩
    · cases h5
end Go.Proofs.YtcdfjaaipbjpnaaDoor

/- Policies, plain: lines that say nothing, and blanks round the words, change nothing. -/
namespace Go.Proofs.YtcdfjaaipbjpnaaDoor
open Go.Sx
set_option linter.unusedVariables false
set_option linter.unusedSimpArgs false

/-! ### which bytes are text -/
theorem dec_cut {sz sz' p a b c d b' c' d' : Nat} (hb : p + 1 < sz → b' = b) (hc : p + 2 < sz → c' = c) (hd : p + 3 < sz → d' = d) (hs : sz ≤ sz') (eb : p + 1 = sz → b' < 128) (ec : p + 2 = sz → c' < 128) (ed : p + 3 = sz → d' < 128) (hp : p < sz) : dec sz' p a b' c' d' = dec sz p a b c d := by
  unfold dec
  by_cases h1 : a < 128
  · rw [if_pos h1, if_pos h1]
  rw [if_neg h1, if_neg h1]
  by_cases h2 : a / 32 = 6 ∧ p + 1 < sz ∧ b / 64 = 2
  · obtain rfl := hb h2.2.1
    rw [if_pos h2, if_pos (by omega)]
  rw [if_neg h2, if_neg (by
    rintro ⟨e1, e2, e3⟩
    by_cases hh : p + 1 < sz
    · have := hb hh; subst this; exact h2 ⟨e1, hh, e3⟩
    · have := eb (by omega); omega)]
  by_cases h3 : a / 16 = 14 ∧ p + 1 < sz ∧ b / 64 = 2 ∧ p + 2 < sz ∧ c / 64 = 2
  · obtain rfl := hb h3.2.1
    obtain rfl := hc h3.2.2.2.1
    rw [if_pos h3, if_pos (by omega)]
  rw [if_neg h3, if_neg (by
    rintro ⟨e1, e2, e3, e4, e5⟩
    by_cases hh : p + 1 < sz
    · have := hb hh; subst this
      by_cases hh2 : p + 2 < sz
      · have := hc hh2; subst this; exact h3 ⟨e1, hh, e3, hh2, e5⟩
      · have := ec (by omega); omega
    · have := eb (by omega); omega)]
  by_cases h4 : a / 8 = 30 ∧ p + 1 < sz ∧ b / 64 = 2 ∧ p + 2 < sz ∧ c / 64 = 2 ∧ p + 3 < sz ∧ d / 64 = 2
  · obtain rfl := hb h4.2.1
    obtain rfl := hc h4.2.2.2.1
    obtain rfl := hd h4.2.2.2.2.2.1
    rw [if_pos h4, if_pos (by omega)]
  rw [if_neg h4, if_neg (by
    rintro ⟨e1, e2, e3, e4, e5, e6, e7⟩
    by_cases hh : p + 1 < sz
    · have := hb hh; subst this
      by_cases hh2 : p + 2 < sz
      · have := hc hh2; subst this
        by_cases hh3 : p + 3 < sz
        · have := hd hh3; subst this; exact h4 ⟨e1, hh, e3, hh2, e5, hh3, e7⟩
        · have := ed (by omega); omega
      · have := ec (by omega); omega
    · have := eb (by omega); omega)]
def lowS (b : ByteArray) : Prop := bt b 0 < 128
theorem decode_low {a b : ByteArray} (hb : lowS b) {p : Nat} (hp : p < a.size) : Utf8.decode (a ++ b) p = Utf8.decode a p := by
  rw [decode_eq, decode_eq, bt_left hp]
  have key : ∀ k, p + k = a.size → bt (a ++ b) (p + k) < 128 := fun k hk => by
    rw [show p + k = a.size + 0 by omega, bt_right]; exact hb
  exact dec_cut (fun hh => bt_left hh) (fun hh => bt_left hh) (fun hh => bt_left hh) (by rw [app_size]; omega) (key 1) (key 2) (key 3) hp
theorem dl_low (a b : ByteArray) (hb : lowS b) : ∀ (n p : Nat), p ≤ a.size → a.size ≤ p + n → dl (a ++ b) (n + b.size) p = dl a n p ++ (dl b b.size 0).map (shR a.size)
  | 0, p, h1, h2 => by
    obtain rfl : p = a.size := by omega
    have := dl_right a b b.size 0
    rw [Nat.add_zero] at this
    rw [Nat.zero_add, this]
    rfl
  | n + 1, p, h1, h2 => by
    by_cases hp : p < a.size
    · rw [show dl a (n + 1) p = (p, (Utf8.decode a p).1, (Utf8.decode a p).2) :: dl a n (p + (Utf8.decode a p).2) by rw [dl, if_pos hp]]
      have hr := decode_room hp
      have := decode_pos a p
      rw [show n + 1 + b.size = (n + b.size) + 1 by omega, dl, if_pos (by rw [app_size]; omega), decode_low hb hp, dl_low a b hb n _ hr (by omega)]
      rfl
    · obtain rfl : p = a.size := by omega
      have h4 : dl (a ++ b) (n + 1 + b.size) a.size = _ := dl_right a b (n + 1 + b.size) 0
      rw [h4, dl_end (s := a) hp, dl_fuel b (n + 1 + b.size) b.size 0 (by omega) (by omega)]
      rfl
/-- Are bytes text? -/
def okB (l : List UInt8) : Bool := (rl ⟨l.toArray⟩).all okR
theorem ba_l (s : ByteArray) : (⟨s.data.toList.toArray⟩ : ByteArray) = s := by cases s; simp
theorem ok_bad (s : ByteArray) : 0 ≤ badV s s.size 0 ↔ okB s.data.toList = false := by
  unfold okB
  rw [ba_l]
  have := (bad_rl s).2
  cases h : (rl s).all okR with
  | true => rw [h] at this; have := this.2 rfl; simp; omega
  | false => rw [h] at this; simp at this; simp; omega
theorem okB_app (a r : List UInt8) (c : UInt8) (hc : c.toNat < 128) : okB (a ++ c :: r) = (okB a && okB r) := by
  have e1 : (⟨(a ++ c :: r).toArray⟩ : ByteArray) = ⟨a.toArray⟩ ++ ⟨(c :: r).toArray⟩ := by
    apply ByteArray.ext; simp
  have e2 : (⟨(c :: r).toArray⟩ : ByteArray) = ⟨#[c]⟩ ++ ⟨r.toArray⟩ := by
    apply ByteArray.ext; simp
  have hlow : lowS ⟨(c :: r).toArray⟩ := by
    unfold lowS
    rw [← byt_bt]
    exact hc
  have h1 : okB (a ++ c :: r) = (okB a && okB (c :: r)) := by
    unfold okB
    rw [e1]
    unfold rl
    rw [dl_fuel _ _ ((⟨a.toArray⟩ : ByteArray).size + (⟨(c :: r).toArray⟩ : ByteArray).size) 0 (by omega) (by rw [app_size]; omega), dl_low _ _ hlow _ 0 (by omega) (by omega), List.all_append, ok_shift]
  have h0 : rl ⟨#[c]⟩ = [(0, c.toNat, 1)] := by
    have hb : bt ⟨#[c]⟩ 0 = c.toNat := by rw [← byt_bt]; rfl
    have hd : Utf8.decode ⟨#[c]⟩ 0 = (c.toNat, 1) := by rw [decode_eq, hb, dec, if_pos hc]
    show dl ⟨#[c]⟩ 1 0 = _
    rw [dl, if_pos (by show 0 < 1; omega), hd]
    rfl
  have hk : ((rl ⟨#[c]⟩).all okR) = true := by
    rw [h0]
    simp only [List.all_cons, List.all_nil, okR, Bool.and_true]
    have : ¬ c.toNat = 65533 := by omega
    simp [this]
  have h2 : okB (c :: r) = okB r := by
    unfold okB
    rw [e2, rl_app _ hk, List.all_append, hk, Bool.true_and, ok_shift]
  rw [h1, h2]
theorem okB_cons (r : List UInt8) (c : UInt8) (hc : c.toNat < 128) : okB (c :: r) = okB r := by
  have := okB_app [] r c hc
  rw [List.nil_append] at this
  rw [this, show okB [] = true from rfl, Bool.true_and]

/-! ### the text with blanks -/
def expB (b : UInt8) : List UInt8 := if b = 10 then [10, 32, 32] else if b = 32 then [32, 9] else [b]
def expL : List UInt8 → List UInt8
  | [] => []
  | b :: r => expB b ++ expL r
theorem ok_exp : ∀ (s a : List UInt8), okB (a ++ expL s) = okB (a ++ s)
  | [], a => rfl
  | b :: s, a => by
    rw [expL, expB]
    by_cases h1 : b = 10
    · subst h1
      rw [if_pos rfl, List.cons_append, okB_app _ _ _ (by decide), okB_app _ _ _ (by decide), List.cons_append, okB_cons _ _ (by decide), List.cons_append, okB_cons _ _ (by decide)]
      have := ok_exp s []
      rw [List.nil_append, List.nil_append] at this
      rw [List.nil_append, this]
    · rw [if_neg h1]
      by_cases h2 : b = 32
      · subst h2
        rw [if_pos rfl, List.cons_append, okB_app _ _ _ (by decide), okB_app _ _ _ (by decide), List.cons_append, okB_cons _ _ (by decide)]
        have := ok_exp s []
        rw [List.nil_append, List.nil_append] at this
        rw [List.nil_append, this]
      · rw [if_neg h2]
        have := ok_exp s (a ++ [b])
        simpa using this
theorem linesG_cut : ∀ (l cur r : List UInt8), (∀ b ∈ l, b ≠ 10) → linesG cur (l ++ 10 :: r) = (cur ++ l) :: linesG [] r
  | [], cur, r, _ => by rw [List.nil_append, linesG, if_pos rfl, List.append_nil]
  | b :: l, cur, r, h => by
    rw [List.cons_append, linesG, if_neg (h b (.head _)), linesG_cut l _ r (fun x hx => h x (.tail _ hx)), List.append_assoc]; rfl
theorem linesG_end : ∀ (l cur : List UInt8), (∀ b ∈ l, b ≠ 10) → linesG cur l = [cur ++ l]
  | [], cur, _ => by rw [linesG, List.append_nil]
  | b :: l, cur, h => by
    rw [linesG, if_neg (h b (.head _)), linesG_end l _ (fun x hx => h x (.tail _ hx)), List.append_assoc]; rfl
theorem wordsG_two (r : List UInt8) : ∀ (c cur : List UInt8), wordsG cur (c ++ 32 :: 9 :: r) = wordsG cur (c ++ 32 :: r)
  | [], cur => by
    have e : wordsG [] (9 :: r) = wordsG [] r := by rw [wordsG, if_pos (by decide), if_pos rfl]
    show (if blkB 32 = true then (if cur = [] then wordsG [] (9 :: r) else cur :: wordsG [] (9 :: r)) else wordsG (cur ++ [32]) (9 :: r)) = (if blkB 32 = true then (if cur = [] then wordsG [] r else cur :: wordsG [] r) else wordsG (cur ++ [32]) r)
    have hb : blkB 32 = true := by decide
    rw [e, if_pos hb, if_pos hb]
  | b :: c, cur => by
    rw [List.cons_append, List.cons_append, wordsG, wordsG, wordsG_two r c, wordsG_two r c]
theorem lines_exp : ∀ (s c c' : List UInt8), (∀ r, wordsG [] (c ++ r) = wordsG [] (c' ++ r)) → (linesG c (expL s)).map (wordsG []) = (linesG c' s).map (wordsG [])
  | [], c, c', h => by
    have := h []
    rw [List.append_nil, List.append_nil] at this
    simp [expL, linesG, this]
  | b :: s, c, c', h => by
    have e0 := h []
    rw [List.append_nil, List.append_nil] at e0
    rw [expL, expB, linesG]
    by_cases h1 : b = 10
    · rw [if_pos h1, if_pos h1, List.cons_append, linesG, if_pos rfl, List.map_cons, List.map_cons, e0]
      congr 1
      rw [List.cons_append, linesG, if_neg (by decide), List.cons_append, linesG, if_neg (by decide), List.nil_append]
      exact lines_exp s _ _ fun r => by
        show wordsG [] (32 :: 32 :: r) = wordsG [] r
        rw [wordsG, if_pos (by decide), if_pos rfl, wordsG, if_pos (by decide), if_pos rfl]
    · rw [if_neg h1, if_neg h1]
      by_cases h2 : b = 32
      · subst h2
        rw [if_pos rfl, List.cons_append, linesG, if_neg (by decide), List.cons_append, linesG, if_neg (by decide), List.nil_append]
        exact lines_exp s _ _ fun r => by
          rw [List.append_assoc, List.append_assoc, List.append_assoc]
          show wordsG [] (c ++ 32 :: 9 :: r) = wordsG [] (c' ++ 32 :: r)
          rw [h, wordsG_two]
      · rw [if_neg h2, List.cons_append, linesG, if_neg h1, List.nil_append]
        exact lines_exp s _ _ fun r => by rw [List.append_assoc, List.append_assoc]; exact h _

/-! ### lines that say the same -/
theorem map_l_inj : ∀ {a b : List ByteArray}, a.map (fun w => w.data.toList) = b.map (fun w => w.data.toList) → a = b
  | [], [], _ => rfl
  | [], _ :: _, h => by cases h
  | _ :: _, [], h => by cases h
  | x :: a, y :: b, h => by
    simp only [List.map_cons, List.cons.injEq] at h
    rw [map_l_inj h.2, show x = y by rw [ba_eq x, ba_eq y, h.1]]
theorem fields_eq {a b : ByteArray} (h : wordsG [] a.data.toList = wordsG [] b.data.toList) : fieldsL a = fieldsL b :=
  map_l_inj (by rw [fields_words, fields_words, h])
theorem fields_of {a : ByteArray} {ws : List (List UInt8)} (h : wordsG [] a.data.toList = ws) : (fieldsL a).map (fun w => w.data.toList) = ws := by
  rw [fields_words, h]
def errL : (Int × Int) ⊕ Rdr → Int ⊕ Rdr
  | .inl q => .inl q.2
  | .inr r => .inr r
theorem linesF_alike : ∀ {ls ls' : List ByteArray} {at_ at' : Int} {r : Rdr}, ls.map fieldsL = ls'.map fieldsL → errL (linesF ls at_ r) = errL (linesF ls' at' r)
  | [], [], _, _, _, _ => rfl
  | [], _ :: _, _, _, _, h => by cases h
  | _ :: _, [], _, _, _, h => by cases h
  | l :: ls, l' :: ls', at_, at', r, h => by
    simp only [List.map_cons, List.cons.injEq] at h
    rw [linesF, linesF, h.1]
    split
    · split
      · rfl
      · exact linesF_alike h.2
    · exact linesF_alike h.2
theorem parse_lines {s s' : ByteArray} (h1 : s.size ≤ 65536) (h2 : s'.size ≤ 65536) (hb : okB s.data.toList = okB s'.data.toList) (hl : errL (linesF (linesL s) 0 rdr0) = errL (linesF (linesL s') 0 rdr0)) :
    (parseP s).2.2 = (parseP s').2.2 ∧ (parseP s).1 = (parseP s').1 := by
  have e : (0 ≤ badV s s.size 0) ↔ (0 ≤ badV s' s'.size 0) := by rw [ok_bad, ok_bad, hb]
  unfold parseP
  rw [if_neg (show ¬ 65536 < s.size by omega), if_neg (show ¬ 65536 < s'.size by omega)]
  by_cases hbad : 0 ≤ badV s s.size 0
  · rw [if_pos hbad, if_pos (e.1 hbad)]
    exact ⟨rfl, rfl⟩
  rw [if_neg hbad, if_neg (fun h => hbad (e.2 h))]
  cases ha : linesF (linesL s) 0 rdr0 with
  | inl q =>
    cases hb' : linesF (linesL s') 0 rdr0 with
    | inl q' =>
      rw [ha, hb'] at hl
      simp only [errL, Sum.inl.injEq] at hl
      exact ⟨hl, rfl⟩
    | inr r' => rw [ha, hb'] at hl; cases hl
  | inr r =>
    cases hb' : linesF (linesL s') 0 rdr0 with
    | inl q' => rw [ha, hb'] at hl; cases hl
    | inr r' =>
      rw [ha, hb'] at hl
      simp only [errL, Sum.inr.injEq] at hl
      subst hl
      show (endR s.size r).2.2 = (endR s'.size r).2.2 ∧ (endR s.size r).1 = (endR s'.size r).1
      unfold endR
      split
      · exact ⟨rfl, rfl⟩
      · split <;> exact ⟨rfl, rfl⟩
theorem says_no {l : ByteArray} (h : (∃ r ws, wordsG [] l.data.toList = (35 :: r) :: ws) ∨ wordsG [] l.data.toList = []) : says (fieldsL l) = false := by
  rcases h with ⟨r, ws, h⟩ | h
  · have hf := fields_of h
    cases hw : fieldsL l with
    | nil => rw [hw] at hf; cases hf
    | cons w t =>
      rw [hw] at hf
      simp only [List.map_cons, List.cons.injEq] at hf
      unfold says
      have : sb (w_ (w :: t) 0) 0 = 35 := by
        show (((w.data.toList.getD 0 0).toNat : Nat) : Int) = 35
        rw [hf.1]; rfl
      rw [this]
      simp
  · have hf := fields_of h
    rw [List.map_eq_nil_iff] at hf
    rw [hf]; rfl
theorem linesF_skip {l : ByteArray} {ls : List ByteArray} {at_ : Int} {r : Rdr} (h : says (fieldsL l) = false) : linesF (l :: ls) at_ r = linesF ls (at_ + (l.size + 1)) r := by
  rw [linesF, if_neg (by rw [h]; simp)]
theorem note_words (note : List UInt8) : ∃ r ws, wordsG [] (35 :: 32 :: note) = (35 :: r) :: ws := ⟨[], wordsG [] note, by
  rw [wordsG, if_neg (by decide), wordsG, if_pos (by decide), if_neg (by simp)]; rfl⟩
/-- Lines that say nothing, and blanks round the words, change nothing. -/
theorem wide_same {s t w : ByteArray} {note : List UInt8} (hs : s.size ≤ 65536) (hw : w.size ≤ 65536) (ht : t.size ≤ 65536) (hn : ∀ b ∈ note, b ≠ 10) (et : t.data.toList = 35 :: 32 :: note) (ew : w.data.toList = (35 :: 32 :: note) ++ 10 :: 9 :: 10 :: expL s.data.toList) :
    ((parseP t).2.2 = 5 → (parseP w).2.2 = 5) ∧ (¬ (parseP t).2.2 = 5 → (parseP s).2.2 = (parseP w).2.2 ∧ (parseP s).1 = (parseP w).1) := by
  have hok : okB w.data.toList = (okB t.data.toList && okB s.data.toList) := by
    rw [ew, et, okB_app _ _ 10 (by decide), okB_cons (10 :: expL s.data.toList) 9 (by decide), okB_cons (expL s.data.toList) 10 (by decide)]
    have := ok_exp s.data.toList []
    rw [List.nil_append, List.nil_append] at this
    rw [this]
  have hl : ∀ b ∈ (35 : UInt8) :: 32 :: note, b ≠ 10 := fun b hb => by
    rcases List.mem_cons.1 hb with rfl | hb
    · decide
    · rcases List.mem_cons.1 hb with rfl | hb
      · decide
      · exact hn b hb
  -- what the note is
  have htl : ∃ l, linesL t = [l] ∧ l.data.toList = 35 :: 32 :: note := by
    have h := lines_lines t
    rw [et, linesG_end _ _ hl, List.nil_append] at h
    cases hx : linesL t with
    | nil => rw [hx] at h; cases h
    | cons l r =>
      rw [hx] at h
      simp only [List.map_cons, List.cons.injEq, List.map_eq_nil_iff] at h
      exact ⟨l, by rw [h.2], h.1⟩
  have ht5 : (parseP t).2.2 = 5 ↔ okB t.data.toList = false := by
    rw [← ok_bad]
    unfold parseP
    rw [if_neg (by omega)]
    by_cases hb : 0 ≤ badV t t.size 0
    · rw [if_pos hb]; exact ⟨fun _ => hb, fun _ => rfl⟩
    · rw [if_neg hb]
      obtain ⟨l, h1, h2⟩ := htl
      rw [h1, linesF_skip (says_no (.inl (by rw [h2]; exact note_words note)))]
      refine ⟨fun h => ?_, fun h => absurd h hb⟩
      exact absurd h (by show ¬ (4 : Int) = 5; decide)
  refine ⟨fun h => ?_, fun h => ?_⟩
  · have hb := ht5.1 h
    rw [hb, Bool.false_and, ← ok_bad] at hok
    unfold parseP
    rw [if_neg (by omega), if_pos hok]
  · have hb : okB t.data.toList = true := by
      cases e : okB t.data.toList with
      | true => rfl
      | false => exact absurd (ht5.2 e) h
    rw [hb, Bool.true_and] at hok
    refine parse_lines hs hw hok.symm ?_
    have hwl := lines_lines w
    rw [ew, linesG_cut _ _ _ hl, show (9 : UInt8) :: 10 :: expL s.data.toList = [9] ++ 10 :: expL s.data.toList from rfl, linesG_cut [9] _ _ (fun b hb => by rw [List.mem_singleton.1 hb]; decide)] at hwl
    cases hx : linesL w with
    | nil => rw [hx] at hwl; cases hwl
    | cons l0 r0 =>
      rw [hx] at hwl
      simp only [List.map_cons, List.cons.injEq, List.nil_append] at hwl
      cases hy : r0 with
      | nil => rw [hy] at hwl; cases hwl.2
      | cons l1 r1 =>
        rw [hy] at hwl
        simp only [List.map_cons, List.cons.injEq] at hwl
        rw [linesF_skip (says_no (.inl (by rw [hwl.1]; exact note_words note))), linesF_skip (says_no (.inr (by rw [hwl.2.1]; decide)))]
        refine linesF_alike ?_
        have h1 : (linesL s).map (fun x => wordsG [] x.data.toList) = r1.map (fun x => wordsG [] x.data.toList) := by
          have e := lines_exp s.data.toList [] [] (fun _ => rfl)
          rw [← lines_lines s, ← hwl.2.2, List.map_map, List.map_map] at e
          exact e.symm
        have h2 : ∀ (a b : List ByteArray), a.map (fun x => wordsG [] x.data.toList) = b.map (fun x => wordsG [] x.data.toList) → a.map fieldsL = b.map fieldsL := fun a => by
          induction a with
          | nil => intro b hb; cases b with
            | nil => rfl
            | cons _ _ => cases hb
          | cons x a ih => intro b hb; cases b with
            | nil => cases hb
            | cons y b =>
              simp only [List.map_cons, List.cons.injEq] at hb
              rw [List.map_cons, List.map_cons, fields_eq hb.1, ih b hb.2]
        exact h2 _ _ h1

/-! ### sizes -/
theorem linesF_small : ∀ (ls : List ByteArray) (n : Nat) (at_ : Int) (r r' : Rdr), Kept r n → n + ls.length ≤ 100000 → linesF ls at_ r = .inr r' → Small r'
  | [], n, at_, r, r', h, _, e => by
    rw [linesF] at e
    cases e
    exact h.toSmall
  | l :: ls, n, at_, r, r', h, hn, e => by
    rw [List.length_cons] at hn
    rw [linesF] at e
    split at e
    · split at e
      · cases e
      · exact linesF_small ls (n + 1) _ _ r' (kept_read h (by omega) _) (by omega) e
    · exact linesF_small ls (n + 1) _ r r' ⟨h.toSmall, by have := h.count; omega, h.flow⟩ (by omega) e
theorem pol0_sz : PolSz pol0 := ⟨by decide, by decide, by decide, by decide⟩
theorem parse_sz (s : ByteArray) : PolSz (parseP s).1 := by
  unfold parseP
  by_cases h1 : 65536 < s.size
  · rw [if_pos h1]; exact pol0_sz
  rw [if_neg h1]
  by_cases h2 : 0 ≤ badV s s.size 0
  · rw [if_pos h2]; exact pol0_sz
  rw [if_neg h2]
  cases ha : linesF (linesL s) 0 rdr0 with
  | inl q => exact pol0_sz
  | inr r =>
    have hl := (lines_ok s).2
    obtain ⟨k1, k2, k3, k4, k5⟩ := linesF_small _ 0 0 rdr0 r kept0 (by omega) ha
    show PolSz (endR s.size r).1
    unfold endR
    split
    · exact pol0_sz
    · split
      · exact ⟨by show r.lev.length * 16 ≤ _; omega, by show (closeM r.lev.length r.flows).length * 8 ≤ _; unfold closeM; rw [List.length_map, List.length_range]; omega, by show r.ins.length * 24 ≤ _; omega, by show r.outs.length * 24 ≤ _; omega⟩
      · exact pol0_sz
end Go.Proofs.YtcdfjaaipbjpnaaDoor

/- Policies: the answer's Same, of a policy and itself. -/
namespace Go.Proofs.YtcdfjaaipbjpnaaDoor
open Go.Sx
set_option linter.unusedVariables false
set_option linter.unusedSimpArgs false
set_option maxRecDepth 100000

theorem same5_spec (up : List M64) (hl : inI64 (up.length : Int)) : Pure PG 33 [vU up, vU up] (vb true) [] := by
  refine Proc.mk (cfg 26) tysOK [] Tryd.func33 rfl (by kernel_rfl) rfl rfl rfl ?_
  intro C x
  unfold inI64 at hl
  refine x.cond rfl trivial (fun h => ?_) (fun h => ?_)
  · have h : (!decide ((up.length : Int) = up.length)) = true := h
    simp at h
  refine x.loop (α := { i : Nat // i ≤ up.length }) (fun y => ⟨[(0, vU up), (1, vU up), (5, vi (y.1 : Int))], [], 0⟩) (fun y => up.length - y.1) ⟨0, by omega⟩ rfl trivial ⟨⟨veq_d rfl, veq_d rfl, rfl, trivial⟩, trivial, rfl⟩ (fun y => ?_)
  obtain ⟨i, hi⟩ := y
  change Go C _ ⟨[(0, vU up), (1, vU up), (5, vi (i : Int))], [], 0⟩ _
  refine x.cond rfl trivial (fun h1 => ?_) (fun h1 => ?_)
  · have h1 : i < up.length := by have := of_decide_eq_true h1; omega
    refine x.quiet rfl trivial mixedP (by kernel_rfl) ?_
    refine x.qdone rfl (by simp only [AllP]; omega) ?_
    refine x.cond rfl trivial (fun h2 => ?_) (fun h2 => ?_)
    · have h2 : (!decide (((upA up i).toNat : Int) = (upA up i).toNat)) = true := h2
      simp at h2
    · refine x.back rfl ?_ ⟨⟨i + 1, by omega⟩, by show up.length - (i + 1) < up.length - i; omega, ⟨veq_d rfl, veq_d rfl, (show VEq0 (vi ((i : Int) + 1)) (vi ((i + 1 : Nat) : Int)) by rw [Int.natCast_add]; rfl), trivial⟩, trivial, rfl⟩
      simp only [AllP, inI64]; omega
  · exact x.exit rfl trivial ⟨.inr rfl, rfl, trivial, rfl⟩

abbrev polB (p : Pol) : Ch := .box [vSs p.lev, vU p.up, vChs p.ins, vChs p.outs, vi p.depth]
theorem polB_eq (p : Pol) : ChEq (polB p) (polB p) := ⟨veq0_d rfl, veq0_d rfl, veq0_d rfl, veq0_d rfl, rfl, trivial⟩
theorem polSz_i64 {p : Pol} (h : PolSz p) : inI64 (p.lev.length : Int) ∧ inI64 (p.up.length : Int) ∧ inI64 (p.ins.length : Int) ∧ inI64 (p.outs.length : Int) := by
  obtain ⟨h1, h2, h3, h4⟩ := h
  unfold inI64; omega
set_option maxHeartbeats 2000000 in
theorem same6_spec (p : Pol) (h : PolSz p) : Pure PG 10 [vPol p, vPol p] (vb true) [] := by
  obtain ⟨i1, i2, i3, i4⟩ := polSz_i64 h
  refine Proc.mk (cfg 102) tysOK [] Tryd.func10 rfl (by kernel_rfl) rfl rfl rfl ?_
  intro C x
  refine x.pureG rfl trivial rfl (fun _ => same5_spec p.up i2) rfl ⟨veq_d rfl, veq_d rfl, trivial⟩ ?_
  unfold inI64 at i1 i3 i4
  refine x.cond rfl trivial (fun h => ?_) (fun h => ?_)
  · exfalso; revert h
    simp
  refine x.loop (α := { i : Nat // i ≤ p.lev.length }) (fun y => ⟨[(2, .ptr 0 0), (3, .ptr 1 0), (5, vi (y.1 : Int))], [(0, polB p), (1, polB p)], 2⟩) (fun y => p.lev.length - y.1) ⟨0, by omega⟩ rfl trivial ⟨⟨⟨rfl, rfl⟩, ⟨rfl, rfl⟩, rfl, trivial⟩, ⟨polB_eq p, polB_eq p, trivial⟩, rfl⟩ (fun y => ?_)
  obtain ⟨i, hi⟩ := y
  change Go C _ ⟨[(2, .ptr 0 0), (3, .ptr 1 0), (5, vi (i : Int))], [(0, polB p), (1, polB p)], 2⟩ _
  refine x.cond rfl trivial (fun h1 => ?_) (fun h1 => ?_)
  · have h1 : i < p.lev.length := by have := of_decide_eq_true h1; omega
    refine x.quiet rfl trivial mixedP (by kernel_rfl) ?_
    refine x.qdone rfl (by simp only [AllP]; omega) ?_
    refine x.cond rfl trivial (fun h2 => ?_) (fun h2 => ?_)
    · exfalso; revert h2
      simp
    · refine x.back rfl ?_ ⟨⟨i + 1, by omega⟩, by show p.lev.length - (i + 1) < p.lev.length - i; omega, ⟨⟨rfl, rfl⟩, ⟨rfl, rfl⟩, (show VEq0 (vi ((i : Int) + 1)) (vi ((i + 1 : Nat) : Int)) by rw [Int.natCast_add]; rfl), trivial⟩, ⟨polB_eq p, polB_eq p, trivial⟩, rfl⟩
      simp only [AllP, inI64]; omega
  refine x.loop (α := { i : Nat // i ≤ p.ins.length }) (fun y => ⟨[(2, .ptr 0 0), (3, .ptr 1 0), (6, vi (y.1 : Int))], [(0, polB p), (1, polB p)], 2⟩) (fun y => p.ins.length - y.1) ⟨0, by omega⟩ rfl trivial ⟨⟨⟨rfl, rfl⟩, ⟨rfl, rfl⟩, rfl, trivial⟩, ⟨polB_eq p, polB_eq p, trivial⟩, rfl⟩ (fun y => ?_)
  obtain ⟨i, hi⟩ := y
  change Go C _ ⟨[(2, .ptr 0 0), (3, .ptr 1 0), (6, vi (i : Int))], [(0, polB p), (1, polB p)], 2⟩ _
  refine x.cond rfl trivial (fun h1 => ?_) (fun h1 => ?_)
  · have h1 : i < p.ins.length := by have := of_decide_eq_true h1; omega
    refine x.quiet rfl trivial mixedP (by kernel_rfl) ?_
    refine x.qdone rfl (by simp only [AllP]; omega) ?_
    refine x.cond rfl trivial (fun h2 => ?_) (fun h2 => ?_)
    · exfalso; revert h2
      simp
    · refine x.back rfl ?_ ⟨⟨i + 1, by omega⟩, by show p.ins.length - (i + 1) < p.ins.length - i; omega, ⟨⟨rfl, rfl⟩, ⟨rfl, rfl⟩, (show VEq0 (vi ((i : Int) + 1)) (vi ((i + 1 : Nat) : Int)) by rw [Int.natCast_add]; rfl), trivial⟩, ⟨polB_eq p, polB_eq p, trivial⟩, rfl⟩
      simp only [AllP, inI64]; omega
  refine x.loop (α := { i : Nat // i ≤ p.outs.length }) (fun y => ⟨[(2, .ptr 0 0), (3, .ptr 1 0), (7, vi (y.1 : Int))], [(0, polB p), (1, polB p)], 2⟩) (fun y => p.outs.length - y.1) ⟨0, by omega⟩ rfl trivial ⟨⟨⟨rfl, rfl⟩, ⟨rfl, rfl⟩, rfl, trivial⟩, ⟨polB_eq p, polB_eq p, trivial⟩, rfl⟩ (fun y => ?_)
  obtain ⟨i, hi⟩ := y
  change Go C _ ⟨[(2, .ptr 0 0), (3, .ptr 1 0), (7, vi (i : Int))], [(0, polB p), (1, polB p)], 2⟩ _
  refine x.cond rfl trivial (fun h1 => ?_) (fun h1 => ?_)
  · have h1 : i < p.outs.length := by have := of_decide_eq_true h1; omega
    refine x.quiet rfl trivial mixedP (by kernel_rfl) ?_
    refine x.qdone rfl (by simp only [AllP]; omega) ?_
    refine x.cond rfl trivial (fun h2 => ?_) (fun h2 => ?_)
    · exfalso; revert h2
      simp
    · refine x.back rfl ?_ ⟨⟨i + 1, by omega⟩, by show p.outs.length - (i + 1) < p.outs.length - i; omega, ⟨⟨rfl, rfl⟩, ⟨rfl, rfl⟩, (show VEq0 (vi ((i : Int) + 1)) (vi ((i + 1 : Nat) : Int)) by rw [Int.natCast_add]; rfl), trivial⟩, ⟨polB_eq p, polB_eq p, trivial⟩, rfl⟩
      simp only [AllP, inI64]; omega
  exact x.exit rfl trivial ⟨.inr rfl, rfl, trivial, rfl⟩
end Go.Proofs.YtcdfjaaipbjpnaaDoor

/- Policies: the law PolicyParses. -/
namespace Go.Proofs.YtcdfjaaipbjpnaaDoor
open Go.Sx
set_option linter.unusedVariables false
set_option linter.unusedSimpArgs false
set_option maxRecDepth 100000

set_option maxHeartbeats 2000000 in
theorem parses_spec (s : ByteArray) (hs : s.size ≤ 9223372036854775807) : Pure PG 3 [vs s] (vb true) [] := by
  refine Proc.mk (cfg 37) tysOK [] Tryd.func3 rfl (by kernel_rfl) rfl rfl rfl ?_
  intro C x
  refine x.pure rfl trivial rfl (parse6_spec s hs) ⟨rfl, trivial⟩ ?_
  refine x.pure rfl trivial rfl (rparse_spec s hs) ⟨rfl, trivial⟩ ?_
  refine x.pureG rfl trivial rfl (fun _ => same6_spec _ (parse_sz s)) rfl ⟨⟨veq0_d rfl, veq0_d rfl, veq0_d rfl, veq0_d rfl, rfl, trivial⟩, ⟨veq0_d rfl, veq0_d rfl, veq0_d rfl, veq0_d rfl, rfl, trivial⟩, trivial⟩ ?_
  refine x.pureG rfl trivial rfl (fun _ => awake6_spec) rfl trivial ?_
  refine x.exit rfl trivial ⟨.inr rfl, (show VEq0 (vb _) (vb true) from ?_), trivial, rfl⟩
  simp
  exact rfl
end Go.Proofs.YtcdfjaaipbjpnaaDoor

/- Policies that are handed in, as data; a row whose walk wants the world's shape. -/
namespace Go.Proofs.YtcdfjaaipbjpnaaDoor
open Go.Sx
set_option linter.unusedVariables false
set_option linter.unusedSimpArgs false

theorem conf_lst {α : Type} {z : Nat} {τ : List DTy} {x : D} (d : α → List D) (P : α → Prop) (a0 : α) (each : ∀ ds, Conf τ ds → ∃ a, P a ∧ ds.length = (d a).length ∧ ∀ (j : Nat) (u u' : D), ds[j]? = some u → (d a)[j]? = some u' → DQ u u')
    (h : Conf1 (.sl z τ) x) : ∃ l : List α, DQ x (.sl τ.length l.length fun i => d (l.getD i a0)) ∧ (l.length ≤ maxLen ∧ l.length * z ≤ reachBytes) ∧ ∀ a ∈ l, P a := by
  cases h with
  | sl _ _ n f hn hz hl hc =>
    have each' : ∀ i, i < n → ∃ a, P a ∧ (f i).length = (d a).length ∧ ∀ (j : Nat) (u u' : D), (f i)[j]? = some u → (d a)[j]? = some u' → DQ u u' := fun i hi => each (f i) ⟨hl i hi, fun j t d ht hd => hc i j t d hi ht hd⟩
    let g : Nat → α := fun i => if h : i < n then Classical.choose (each' i h) else a0
    have hg : ∀ i, i < n → P (g i) ∧ (f i).length = (d (g i)).length ∧ ∀ (j : Nat) (u u' : D), (f i)[j]? = some u → (d (g i))[j]? = some u' → DQ u u' := fun i hi => by
      have e : g i = Classical.choose (each' i hi) := by simp only [g, hi, dite_true]
      rw [e]
      exact Classical.choose_spec (each' i hi)
    have hgd : ∀ i, i < n → ((List.range n).map g).getD i a0 = g i := fun i hi => by
      rw [List.getD_eq_getElem?_getD, List.getElem?_eq_getElem (by simpa using hi)]; simp
    refine ⟨(List.range n).map g, ?_, by simpa using ⟨hn, hz⟩, fun o ho => ?_⟩
    · rw [show ((List.range n).map g).length = n by simp]
      refine .sl _ n _ _ (fun i hi => ?_) fun i j u u' hi hd hd' => ?_
      · rw [hgd i hi]; exact (hg i hi).2.1
      · rw [hgd i hi] at hd'
        exact (hg i hi).2.2 j u u' hd hd'
    · obtain ⟨i, hi, rfl⟩ := List.mem_map.1 ho
      exact (hg i (List.mem_range.1 hi)).1
def StrZ (s : ByteArray) : Prop := s.size ≤ 140737488355328
theorem reach_z {s : ByteArray} (h : s.size ≤ reachBytes) : StrZ s := by
  have := reachBytes_lt
  unfold StrZ; omega
theorem wf_i64 {n : Int} (h : (Lit.int .i64 n).wf = true) : inI64 n := by
  simp only [Lit.wf, Bool.and_eq_true, decide_eq_true_eq] at h
  exact h
theorem wf_u64 {n : Int} (h : (Lit.int .u64 n).wf = true) : 0 ≤ n ∧ n ≤ 18446744073709551615 := by
  simp only [Lit.wf, Bool.and_eq_true, decide_eq_true_eq] at h
  exact h
structure PolOK (p : Pol) : Prop where
  sz : PolSz p
  lev : ∀ s ∈ p.lev, StrZ s
  ins : ∀ c ∈ p.ins, StrZ c.1 ∧ inI64 c.2
  outs : ∀ c ∈ p.outs, StrZ c.1 ∧ inI64 c.2
  depth : inI64 p.depth
theorem conf_ss {z : Nat} {x : D} (h : Conf1 (.sl z [.str]) x) : ∃ l : List ByteArray, DQ x (dSs l) ∧ (l.length ≤ maxLen ∧ l.length * z ≤ reachBytes) ∧ ∀ a ∈ l, StrZ a :=
  conf_lst (fun s => [D.str s]) StrZ .empty (fun ds ⟨hl, hc⟩ => by
    match ds, hl with
    | [d0], _ =>
      obtain ⟨s, rfl, h1, h2⟩ := conf_str (hc 0 _ _ rfl rfl)
      refine ⟨s, reach_z h2, rfl, fun j u u' hd hd' => ?_⟩
      match j with
      | 0 => simp at hd hd'; subst hd hd'; exact .refl _
      | j + 1 => simp at hd) h
theorem conf_up {z : Nat} {x : D} (h : Conf1 (.sl z [.int .u64]) x) : ∃ l : List M64, DQ x (dUp l) ∧ (l.length ≤ maxLen ∧ l.length * z ≤ reachBytes) ∧ ∀ a ∈ l, True :=
  conf_lst (fun m => [dm m]) (fun _ => True) 0#64 (fun ds ⟨hl, hc⟩ => by
    match ds, hl with
    | [d0], _ =>
      obtain ⟨n, rfl, h1⟩ := conf_int (hc 0 _ _ rfl rfl)
      have h2 := wf_u64 h1
      refine ⟨BitVec.ofInt 64 n, trivial, rfl, fun j u u' hd hd' => ?_⟩
      match j with
      | 0 =>
        simp only [List.getElem?_cons_zero, Option.some.injEq] at hd hd'
        subst hd hd'
        have e : ((BitVec.ofInt 64 n).toNat : Int) = n := by
          rw [BitVec.toNat_ofInt]; omega
        unfold dm
        rw [e]; exact .refl _
      | j + 1 => simp at hd) h
theorem conf_chs {z : Nat} {x : D} (h : Conf1 (.sl z [.str, .int .i64]) x) : ∃ l : List Chan, DQ x (dChs l) ∧ (l.length ≤ maxLen ∧ l.length * z ≤ reachBytes) ∧ ∀ a ∈ l, StrZ a.1 ∧ inI64 a.2 :=
  conf_lst (fun c : Chan => [D.str c.1, D.int .i64 c.2]) (fun c => StrZ c.1 ∧ inI64 c.2) chan0 (fun ds ⟨hl, hc⟩ => by
    match ds, hl with
    | [d0, d1], _ =>
      obtain ⟨s, rfl, h1, h2⟩ := conf_str (hc 0 _ _ rfl rfl)
      obtain ⟨n, rfl, h3⟩ := conf_int (hc 1 _ _ rfl rfl)
      refine ⟨(s, n), ⟨reach_z h2, wf_i64 h3⟩, rfl, fun j u u' hd hd' => ?_⟩
      match j with
      | 0 => simp at hd hd'; subst hd hd'; exact .refl _
      | 1 => simp at hd hd'; subst hd hd'; exact .refl _
      | j + 2 => simp at hd) h
abbrev polTy : List DTy := [.sl 16 [.str], .sl 8 [.int .u64], .sl 24 [.str, .int .i64], .sl 24 [.str, .int .i64], .int .i64]
theorem conf_polV {F : Nat → Prop} {w : World} {ρ : Nat → Value} {ds : List D} {cs : List Value} (h : Conf polTy ds) (hr : All2 (RD F w) ds cs) : ∃ x : Pol, PolOK x ∧ R3 ρ F w (vPol x) (.agg cs.toArray) := by
  obtain ⟨hl, hc⟩ := h
  match ds, hl, cs, hr with
  | [d0, d1, d2, d3, d4], _, [c0, c1, c2, c3, c4], ⟨r0, r1, r2, r3, r4, _⟩ =>
    obtain ⟨l0, q0, w0, z0⟩ := conf_ss (hc 0 _ _ rfl rfl)
    obtain ⟨l1, q1, w1, z1⟩ := conf_up (hc 1 _ _ rfl rfl)
    obtain ⟨l2, q2, w2, z2⟩ := conf_chs (hc 2 _ _ rfl rfl)
    obtain ⟨l3, q3, w3, z3⟩ := conf_chs (hc 3 _ _ rfl rfl)
    obtain ⟨n4, rfl, w4⟩ := conf_int (hc 4 _ _ rfl rfl)
    have := reachBytes_lt
    exact ⟨⟨l0, l1, l2, l3, n4⟩, ⟨⟨by show l0.length * 16 ≤ _; omega, by show l1.length * 8 ≤ _; omega, by show l2.length * 24 ≤ _; omega, by show l3.length * 24 ≤ _; omega⟩, z0, z2, z3, wf_i64 w4⟩, ⟨_, rfl, q0.sound r0, q1.sound r1, q2.sound r2, q3.sound r3, r4, trivial⟩⟩

/-- A row's claim from a walk that is told what the tables hold and that the world has the program's shape. -/
theorem returns_shaped {H : Type} {enc : TypeId × Value → H} {a : Assume} {C : Checked} {os : Os} {f : FuncId} {fn : Func} {s : ChangeSpec} {conds : List PathCond} {apart fresh handsOn again : Bool} {X : World → Array Value → Prop}
    (hX : ∀ (w w' : World) (args : Array Value), w.heap = w'.heap → X w args → X w' args)
    (own : ownKnob C.prog.godebug = none) (started : os.Started) (noInit : C.prog.inits.idxOf? f = none) (hfn : C.prog.funcs[f]? = some fn)
    (witness : ∃ (w : World) (tape : Tape) (i : Input), w.os = os ∧ (w.forCall tape i).Shaped C.prog ∧ i.vars = [] ∧ Input.okWide C.prog (w.forCall tape i) .any w.heap.size f i ∧
      ((s.pre enc C.prog fn conds apart (w.forCall tape i).memory i.args ∧ X (w.forCall tape i).memory i.args) ∧ sizedMet enc C.prog fn (OpenSpec.ofChange s) apart (w.forCall tape i).memory i.args) ∧ a.holds C.prog (lone (Frame.enter C.prog f i.args .normal) [] (w.forCall tape i)))
    (walk : ∀ (W : World) (base : Nat) (args : Array Value) (ds gs : List (DataW H)) (before : List MemPlace), W.ShapedOpen C.prog →
      (∀ (j : Nat) t v, fn.params[j]? = some t → args[j]? = some v → Value.okWide C.prog W .any base t v) →
      DataW.Whole enc C.prog fn.params.toList s.vars apart W args.toList ds gs before →
      conds.all (PathCond.test C.prog ⟨fn.params.toList, ds, s.plain.varTypes C.prog, gs⟩) = true →
      (DataW.weightsEach C.prog (fn.params.toList ++ s.plain.varTypes C.prog) (ds ++ gs)).all (· ≤ reachBytes) = true → X W args →
      a.holds C.prog (lone (Frame.enter C.prog f args .normal) [] W) →
      Calls C.prog f args W fun e W' => ∃ v, e = .returned v ∧ s.post enc C.prog fn apart fresh handsOn again W args v W') :
    ReturnsInHanded a C os f .any (fun w args => (s.pre enc C.prog fn conds apart w args ∧ X w args) ∧ sizedMet enc C.prog fn (OpenSpec.ofChange s) apart w args) (s.post enc C.prog fn apart fresh handsOn again) :=
  returnsInHanded_of_calls own started noInit witness fun w tape i _ hshape _ hin ⟨⟨⟨ds, gs, before, hwhole, hcond⟩, hx⟩, hz⟩ hh => by
    obtain ⟨_, _, _, fn', e, _, _, _, _, hv⟩ := hin
    cases hfn.symm.trans e
    refine (walk _ w.heap.size i.args ds gs before hshape hv (DataW.Whole.of_heap (w' := w.forCall tape i) (by rfl) hwhole) hcond (hz.weights hwhole) (hX _ _ _ (by rfl) hx) hh).mono ?_
    rintro e W' ⟨v, rfl, hp⟩
    exact ChangeSpec.post_blind hp
end Go.Proofs.YtcdfjaaipbjpnaaDoor
