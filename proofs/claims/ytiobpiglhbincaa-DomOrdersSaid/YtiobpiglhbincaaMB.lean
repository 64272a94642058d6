/- Texts put together: T11D, T11E, T11F, T11G, T11H, T11I, T11J, T11K, T11P. -/
import Derived.Test.YtiobpiglhbincaaMA
import Derived.Test.YtiobpiglhbincaaSxE

/- The end of a pass; how many passes there are; what holds when nothing changes; the net of a graph all of whose nodes are reached. -/
namespace Go.Proofs.Ytiobpiglhbincaa
open Go.Sx
set_option linter.unusedVariables false
set_option linter.unusedSimpArgs false
set_option maxRecDepth 100000

/-! ### a way turns back at most n times -/
theorem freeN_lt {a b : Nat → Bool} {n v : Nat} (h : LeB a b) (hv : v < n) (ha : a v = false) (hb : b v = true) : freeN n b + 1 ≤ freeN n a := by
  have h1 := freeN_set hv ha
  have h2 : LeB (setB a v) b := fun j hj => by
    have hj : (if j = v then true else a j) = true := hj
    by_cases e : j = v
    · rw [e]; exact hb
    · rw [if_neg e] at hj; exact h j hj
  have := freeN_le h2 n
  omega
noncomputable def rchB (to : List (List Int)) (P : Nat → Nat) (no : Int) (r v : Nat) : Bool := @decide (∃ r', r' ≤ r ∧ WayR to P no r' v) (Classical.propDecidable _)
theorem rchB_iff {to : List (List Int)} {P : Nat → Nat} {no : Int} {r v : Nat} : rchB to P no r v = true ↔ ∃ r', r' ≤ r ∧ WayR to P no r' v := @decide_eq_true_iff _ (Classical.propDecidable _)
theorem rch_closed {to : List (List Int)} {P : Nat → Nat} (hn : Net to P) (no : Int) (r : Nat) (hc : ∀ v, v < to.length → rchB to P no (r + 1) v = true → rchB to P no r v = true) : ∀ v, Way to no 0 v → rchB to P no r v = true := fun v h => by
  induction h with
  | here h => exact rchB_iff.2 ⟨0, Nat.zero_le _, .here h⟩
  | @step j k hw hk hne ih =>
    obtain ⟨r', h1, h2⟩ := rchB_iff.1 ih
    rcases Nat.lt_or_ge (P j) (P k.toNat) with hp | hp
    · exact rchB_iff.2 ⟨r', h1, .fwd h2 hk hne hp⟩
    · refine hc _ ?_ (rchB_iff.2 ⟨r' + 1, by omega, .ret h2 hk hne hp⟩)
      have := hn.pos (hw.lt hn.hg hn.hg.1) hk
      omega
theorem rch_grow {to : List (List Int)} {P : Nat → Nat} (hn : Net to P) (no : Int) : ∀ r, (∀ v, Way to no 0 v → rchB to P no r v = true) ∨ freeN to.length (rchB to P no r) + r ≤ to.length := fun r => by
  have mono : ∀ r, LeB (rchB to P no r) (rchB to P no (r + 1)) := fun r v h => by
    obtain ⟨r', h1, h2⟩ := rchB_iff.1 h
    exact rchB_iff.2 ⟨r', by omega, h2⟩
  induction r with
  | zero => exact .inr (by have := freeN_le (fun j h => (by cases h) : LeB (fun _ => false) (rchB to P no 0)) to.length; rw [freeN_no] at this; omega)
  | succ r ih =>
    rcases ih with ih | ih
    · exact .inl fun v hv => mono r v (ih v hv)
    · by_cases hc : ∀ v, v < to.length → rchB to P no (r + 1) v = true → rchB to P no r v = true
      · exact .inl fun v hv => mono r v (rch_closed hn no r hc v hv)
      · have ⟨v, hv⟩ := Classical.not_forall.1 hc
        have ⟨hv1, hv2⟩ := Classical.not_imp.1 hv
        have ⟨hv3, hv4⟩ := Classical.not_imp.1 hv2
        have := freeN_lt (mono r) hv1 (by simpa using hv4) hv3
        exact .inr (by omega)
theorem way_wayR {to : List (List Int)} {P : Nat → Nat} (hn : Net to P) {no : Int} {v : Nat} (h : Way to no 0 v) : ∃ r, r ≤ to.length ∧ WayR to P no r v := by
  rcases rch_grow hn no to.length with hc | hc
  · exact rchB_iff.1 (hc v h)
  · have hv := h.lt hn.hg hn.hg.1
    cases hb : rchB to P no to.length v with
    | true => exact rchB_iff.1 hb
    | false => have := freeN_pos hv hb; omega

/-! ### passes -/
theorem Chn.zero {D : Nat → Int} (h0 : D 0 = -1) {x : Nat} (h : Chn D 0 x) : x = 0 := by
  rcases h.cases' with e | ⟨e, _⟩
  · exact e.symm
  · omega
theorem Net.zero_of {to : List (List Int)} {P : Nat → Nat} (hn : Net to P) {v : Nat} (hv : v < to.length) (h : P v < 1) : v = 0 := hn.inj v 0 hv hn.hg.1 (by rw [hn.zero]; omega)
theorem Stg.start {to : List (List Int)} {P : Nat → Nat} (hn : Net to P) : Stg to P 0 1 (fun _ => -1) := by
  refine ⟨rfl, fun v h => absurd h (by omega), fun v h => absurd h (by omega), fun v h => absurd h (by omega), fun v hv h => ?_, fun v h => absurd h (by omega), fun v hv hs x hx => ?_, fun v hv x hc r hr hw => ?_⟩
  · rcases h with h | h
    · omega
    · exact .inl (hn.zero_of hv h)
  · rcases hs with rfl | hs
    · by_cases e : x = 0
      · rw [e]; exact .here 0
      · exact absurd (Way.here (by omega)) hx
    · exact absurd hs (by show ¬ (0 : Int) ≤ -1; omega)
  · rcases hr with hr | ⟨_, hr⟩
    · omega
    · have := hn.zero_of hv hr
      subst this
      have := Chn.zero (D := fun _ => -1) rfl hc
      subst this
      exact dom_self to 0 hn.nonneg hw.way
theorem Stg.pass {to : List (List Int)} {P : Nat → Nat} (hn : Net to P) {k p : Nat} {D : Nat → Int} (h : Stg to P k p D) (hp : ∀ v, v < to.length → P v < p) : Stg to P (k + 1) 1 D := by
  refine ⟨h.d0, h.rng, h.falls, h.next, fun v hv _ => h.set v hv (.inr (hp v hv)), h.way, h.dom, fun v hv x hc r hr hw => ?_⟩
  rcases hr with hr | ⟨_, hr⟩
  · exact h.q v hv x hc r (.inr ⟨hr, hp v hv⟩) hw
  · have := hn.zero_of hv hr
    subst this
    have := hc.zero h.d0
    subst this
    exact dom_self to 0 hn.nonneg hw.way
/-- After enough passes a chain is the dominators. -/
theorem Stg.exact {to : List (List Int)} {P : Nat → Nat} (hn : Net to P) {k p : Nat} {D : Nat → Int} (h : Stg to P k p D) (hk : to.length < k) {v : Nat} (hv : v < to.length) (x : Nat) : Chn D v x ↔ Dom to x v := by
  constructor
  · intro hc hw
    obtain ⟨r, h1, h2⟩ := way_wayR hn hw
    exact h.q v hv x hc r (.inl (by omega)) h2
  · exact h.dom v hv (h.set v hv (.inl (by omega))) x
/-- Chains of the same nodes have the same next node. -/
theorem chn_same {P : Nat → Nat} {D E : Nat → Int} (hD : Falls P D) (hE : Falls P E) {v : Nat} (hd : 0 ≤ D v) (he : 0 ≤ E v) (hs : ∀ x, Chn D v x ↔ Chn E v x) : D v = E v := by
  have h1 := hD v hd
  have h2 := hE v he
  have a1 : Chn D v (D v).toNat := .up hd (.here _)
  have a2 : Chn E v (E v).toNat := .up he (.here _)
  have b1 := ((hs _).1 a1).cases'
  have b2 := ((hs _).2 a2).cases'
  rcases b1 with b1 | ⟨_, b1⟩
  · rw [← b1] at h1; omega
  · rcases b2 with b2 | ⟨_, b2⟩
    · rw [← b2] at h2; omega
    · have c1 := b1.le hE
      have c2 := b2.le hD
      have := c1.2 (by omega)
      omega
theorem Stg.still {to : List (List Int)} {P : Nat → Nat} (hn : Net to P) {k p : Nat} {D : Nat → Int} (h : Stg to P k p D) {v m : Nat} (hv : v < to.length) (hv0 : v ≠ 0) (hp : P v = p) (hm : Meet to D v m) (hk : to.length < k) : D v = m := by
  have h2 := h.next_node hn hv hv0 hp hm
  have hs : SetD D v := h.set v hv (.inl (by omega))
  have := chn_same h.falls h2.falls (v := v) (by rcases hs with hs | hs; exact absurd hs hv0; exact hs) (by rw [updD_same]; omega) fun x => by rw [h.exact hn hk hv, h2.exact hn hk hv]
  rw [this, updD_same]

/-! ### when nothing changes -/
/-- What dom.Tree makes. -/
structure Tre (to : List (List Int)) (P : Nat → Nat) (D : Nat → Int) : Prop where
  d0 : D 0 = -1
  rng : ∀ v, v < to.length → v ≠ 0 → 0 ≤ D v ∧ D v < to.length
  falls : Falls P D
  dom : ∀ v, v < to.length → ∀ x, Chn D v x ↔ Dom to x v
theorem Stg.done {to : List (List Int)} {P : Nat → Nat} (hn : Net to P) {k p : Nat} {D : Nat → Int} (h : Stg to P k p D) (hp : ∀ v, v < to.length → P v < p) (hf : ∀ v, v < to.length → v ≠ 0 → Meet to D v (D v).toNat) : Tre to P D := by
  have set : ∀ v, v < to.length → SetD D v := fun v hv => h.set v hv (.inr (hp v hv))
  refine ⟨h.d0, fun v hv h0 => ?_, h.falls, fun v hv x => ⟨fun hc hw => ?_, fun hd => h.dom v hv (set v hv) x hd⟩⟩
  · rcases set v hv with e | e
    · exact absurd e h0
    · exact ⟨e, (h.rng v e).2⟩
  · generalize hx : (x : Int) = no at hw
    induction hw with
    | here h2 => exact h2 (by have := hc.zero h.d0; omega)
    | @step j y hw hy hne ih =>
      have hj := hw.lt hn.hg hn.hg.1
      have hyp := hn.pos hj hy
      rcases hc.cases' with e | ⟨e, hc⟩
      · exact hne (by omega)
      · have hy0 : y.toNat ≠ 0 := fun e2 => by rw [e2, h.d0] at e; omega
        have hyl : y.toNat < to.length := by omega
        exact ih hj (((hf y.toNat hyl hy0).on j hj (by rw [show ((y.toNat : Nat) : Int) = y by omega]; exact hy) (set j hj)).trans hc)

/-! ### the net of an order -/
theorem visit_par {to : List (List Int)} (hg : GOK to) (fu : Nat) : ∀ (i : Nat) (st : DS), i < to.length → st.1 i = false → freeN to.length st.1 ≤ fu → ∀ p, st.2.length ≤ p → p < (visit to fu i st).2.length →
    (visit to fu i st).2.getD p 0 = (i : Int) ∨ ∃ q, p < q ∧ q < (visit to fu i st).2.length ∧ (visit to fu i st).2.getD p 0 ∈ to.getD ((visit to fu i st).2.getD q 0).toNat [] := by
  induction fu with
  | zero => exact fun i st hi hb hf => absurd (freeN_pos hi hb) (by omega)
  | succ fu ih =>
    intro i st hi hb hf
    have hf2 := freeN_set hi hb
    have step : ∀ k, k ≤ (to.getD i []).length → ∀ p, st.2.length ≤ p → p < (foldV to fu i st k).2.length →
        (foldV to fu i st k).2.getD p 0 ∈ to.getD i [] ∨ ∃ q, p < q ∧ q < (foldV to fu i st k).2.length ∧ (foldV to fu i st k).2.getD p 0 ∈ to.getD ((foldV to fu i st k).2.getD q 0).toNat [] := fun k => by
      induction k with
      | zero => exact fun _ p hp hpl => absurd hpl (by rw [foldV_zero]; show ¬ p < st.2.length; omega)
      | succ k ih2 =>
        intro hk
        have h1 := ih2 (by omega)
        rw [foldV_succ to fu i st (by omega)]
        unfold stepV
        split
        · exact h1
        · rename_i hy
          have hin := gok_in hg hi (k := k) (by omega)
          have hm := freeN_le (foldV_mono to fu i st k (by omega)) to.length
          obtain ⟨m, hm2, _⟩ := visit_told hg fu ((to.getD i []).getD k 0).toNat (foldV to fu i st k) (by omega) (by simpa using hy) (by omega)
          have h2 := ih ((to.getD i []).getD k 0).toNat (foldV to fu i st k) (by omega) (by simpa using hy) (by omega)
          intro p hp hpl
          rcases Nat.lt_or_ge p (foldV to fu i st k).2.length with hc | hc
          · have e : ∀ q, q < (foldV to fu i st k).2.length → (visit to fu ((to.getD i []).getD k 0).toNat (foldV to fu i st k)).2.getD q 0 = (foldV to fu i st k).2.getD q 0 := fun q hq => by rw [hm2.app, getD_app hq]
            rw [e p hc]
            rcases h1 p hp hc with h3 | ⟨q, q1, q2, q3⟩
            · exact .inl h3
            · exact .inr ⟨q, q1, by rw [hm2.app, List.length_append]; omega, by rw [e q q2]; exact q3⟩
          · rcases h2 p hc hpl with h3 | h3
            · refine .inl ?_
              rw [h3, show ((((to.getD i []).getD k 0).toNat : Nat) : Int) = (to.getD i []).getD k 0 by omega]
              exact getD_in (by omega)
            · exact .inr h3
    have h1 := step _ (Nat.le_refl _)
    rw [visit_eq]
    intro p hp hpl
    have hpl : p < (foldV to fu i st (to.getD i []).length).2.length + 1 := by simpa using hpl
    have hu : ((foldV to fu i st (to.getD i []).length).2 ++ [(i : Int)]).getD (foldV to fu i st (to.getD i []).length).2.length 0 = i := by
      rw [List.getD_eq_getElem?_getD, List.getElem?_append_right (Nat.le_refl _)]; simp
    rcases Nat.lt_or_ge p (foldV to fu i st (to.getD i []).length).2.length with hc | hc
    · refine .inr ?_
      show ∃ q, p < q ∧ q < ((foldV to fu i st (to.getD i []).length).2 ++ [(i : Int)]).length ∧ _
      rw [List.length_append, List.length_singleton]
      rcases h1 p hp hc with h3 | ⟨q, q1, q2, q3⟩
      · refine ⟨_, hc, Nat.lt_succ_self _, ?_⟩
        show List.getD (α := Int) (_ ++ _) p 0 ∈ to.getD (List.getD (α := Int) (_ ++ _) _ 0).toNat []
        rw [hu, getD_app hc, Int.toNat_natCast]; exact h3
      · refine ⟨q, q1, by omega, ?_⟩
        show List.getD (α := Int) (_ ++ _) p 0 ∈ to.getD (List.getD (α := Int) (_ ++ _) _ 0).toNat []
        rw [getD_app hc, getD_app q2]; exact q3
    · refine .inl ?_
      rw [show p = (foldV to fu i st (to.getD i []).length).2.length by omega]
      exact hu
theorem order_find {to : List (List Int)} {O : List Int} (h : OrderOf to O) {v : Nat} (hv : seen to 0 v = true) : ∃ j : Nat, j < O.length ∧ pl O O.length v = j ∧ O.getD j 0 = v := by
  have hmem := (h.mem v).2 hv
  obtain ⟨j, hj, e⟩ := List.getElem_of_mem hmem
  rw [getD_at] at e
  have up : ∀ k, j < k → k ≤ O.length → pl O k v = j := fun k => by
    induction k with
    | zero => exact fun h => absurd h (Nat.not_lt_zero _)
    | succ k ih =>
      intro h1 h2
      simp only [pl]
      by_cases hjk : j = k
      · subst hjk
        rw [if_pos (by omega)]
      · rw [if_neg ?_]
        · exact ih (by omega) (by omega)
        · intro e2
          have e3 := h.lt _ (getD_in (by omega : k < O.length))
          exact hjk (nodup_idx h.nodup hj (by omega) (by omega))
  exact ⟨j, hj, up _ hj (Nat.le_refl _), e⟩
def plc (to : List (List Int)) (v : Nat) : Nat := (pl (orderL to) (orderL to).length v).toNat
theorem net_of {to : List (List Int)} (hg : GOK to) (hs : ∀ v, v < to.length → seen to 0 v = true) : Net to (plc to) := by
  have ho := order_of hg
  have find : ∀ v, v < to.length → plc to v < (orderL to).length ∧ (orderL to).getD (plc to v) 0 = v := fun v hv => by
    obtain ⟨j, h1, h2, h3⟩ := order_find ho (hs v hv)
    have : plc to v = j := by unfold plc; rw [h2, Int.toNat_natCast]
    rw [this]; exact ⟨h1, h3⟩
  refine ⟨hg, fun v hv => (seen_iff hg hg.1 v).1 (hs v hv), ?_, fun u v hu hv e => ?_, fun v hv h0 => ?_⟩
  · obtain ⟨h1, h2⟩ := find 0 hg.1
    exact nodup_idx ho.nodup h1 ho.first.2 (by rw [h2, ho.first.1]; rfl)
  · have h1 := (find u hu).2
    have h2 := (find v hv).2
    rw [e] at h1
    omega
  · obtain ⟨h1, h2⟩ := find v hv
    have e : orderL to = (post to).reverse := by rw [orderL, if_pos hg]
    have hpl := h1
    rw [e, List.length_reverse] at hpl
    have h2' := h2
    rw [e, getD_rev _ hpl] at h2'
    have hf : freeN to.length (fun _ => false) ≤ to.length + 1 := by rw [freeN_no]; omega
    have := visit_par hg (to.length + 1) 0 (fun _ => false, []) hg.1 rfl hf ((post to).length - 1 - plc to v) (Nat.zero_le _) (by show _ < (post to).length; omega)
    have : (post to).getD ((post to).length - 1 - plc to v) 0 = ((0 : Nat) : Int) ∨ ∃ q, (post to).length - 1 - plc to v < q ∧ q < (post to).length ∧ (post to).getD ((post to).length - 1 - plc to v) 0 ∈ to.getD ((post to).getD q 0).toNat [] := this
    rcases this with h3 | ⟨q, q1, q2, q3⟩
    · omega
    · have hb := (post_facts hg).2.2.1 _ (getD_in q2)
      refine ⟨((post to).getD q 0).toNat, by omega, by rw [← h2']; exact q3, ?_⟩
      obtain ⟨h4, h5⟩ := find ((post to).getD q 0).toNat (by omega)
      rw [e, List.length_reverse] at h4
      rw [e, getD_rev _ h4] at h5
      have := nodup_idx (post_facts hg).1 (i := (post to).length - 1 - plc to ((post to).getD q 0).toNat) (j := q) (by omega) q2 (by omega)
      omega
end Go.Proofs.Ytiobpiglhbincaa

/- Where two chains meet. -/
namespace Go.Proofs.Ytiobpiglhbincaa
open Go.Sx
set_option linter.unusedVariables false
set_option linter.unusedSimpArgs false
set_option maxRecDepth 100000

/-- An array of nearer nodes, as the passes keep it. -/
structure Arr (n : Nat) (P : Nat → Nat) (D : Nat → Int) : Prop where
  n1 : 1 ≤ n ∧ n ≤ 256
  zero : P 0 = 0
  inj : ∀ u v, u < n → v < n → P u = P v → u = v
  d0 : D 0 = -1
  rng : ∀ v, 0 ≤ D v → v < n ∧ D v < n
  falls : Falls P D
  next : ∀ v, 0 ≤ D v → SetD D (D v).toNat
theorem Arr.chn {n : Nat} {P : Nat → Nat} {D : Nat → Int} (h : Arr n P D) {v x : Nat} (hv : v < n) (hs : SetD D v) (hc : Chn D v x) : x < n ∧ SetD D x := by
  induction hc with
  | here => exact ⟨hv, hs⟩
  | up h0 _ ih => exact ih (by have := (h.rng _ h0).2; omega) (h.next _ h0)
/-- m is where the chains of a and b meet. -/
structure IsMeet (D : Nat → Int) (a b m : Nat) : Prop where
  l : Chn D a m
  r : Chn D b m
  first : ∀ x, Chn D a x → Chn D b x → Chn D m x
theorem IsMeet.uniq {n : Nat} {P : Nat → Nat} {D : Nat → Int} (h : Arr n P D) {a b m k : Nat} (h1 : IsMeet D a b m) (h2 : IsMeet D a b k) : m = k := by
  have a1 := (h1.first k h2.l h2.r).le h.falls
  have a2 := (h2.first m h1.l h1.r).le h.falls
  exact (a1.2 (by omega)).symm
theorem IsMeet.left {n : Nat} {P : Nat → Nat} {D : Nat → Int} (h : Arr n P D) {a b : Nat} (ha : a < n) (hb : b < n) (sa : SetD D a) (sb : SetD D b) (hlt : P b < P a) : 0 ≤ D a ∧ (D a).toNat < n ∧ SetD D (D a).toNat ∧ ∀ m, IsMeet D (D a).toNat b m ↔ IsMeet D a b m := by
  have h0 : 0 ≤ D a := by
    rcases sa with rfl | sa
    · rw [h.zero] at hlt; omega
    · exact sa
  have tail : ∀ x, Chn D a x → Chn D b x → Chn D (D a).toNat x := fun x h1 h2 => by
    rcases h1.cases' with e | ⟨_, e⟩
    · have := (h2.le h.falls).1; rw [← e] at this; omega
    · exact e
  refine ⟨h0, by have := h.rng a h0; omega, h.next a h0, fun m => ⟨fun hm => ⟨.up h0 hm.l, hm.r, fun x h1 h2 => hm.first x (tail x h1 h2) h2⟩, fun hm => ⟨tail m hm.l hm.r, hm.r, fun x h1 h2 => hm.first x (.up h0 h1) h2⟩⟩⟩
theorem IsMeet.symm {D : Nat → Int} {a b m : Nat} (h : IsMeet D a b m) : IsMeet D b a m := ⟨h.r, h.l, fun x h1 h2 => h.first x h2 h1⟩
theorem IsMeet.right {n : Nat} {P : Nat → Nat} {D : Nat → Int} (h : Arr n P D) {a b : Nat} (ha : a < n) (hb : b < n) (sa : SetD D a) (sb : SetD D b) (hne : a ≠ b) (hlt : ¬ P b < P a) : 0 ≤ D b ∧ (D b).toNat < n ∧ SetD D (D b).toNat ∧ ∀ m, IsMeet D a (D b).toNat m ↔ IsMeet D a b m := by
  have : P a < P b := by
    rcases Nat.lt_or_ge (P a) (P b) with h1 | h1
    · exact h1
    · exact absurd (h.inj a b ha hb (by omega)) hne
  obtain ⟨h1, h2, h3, h4⟩ := IsMeet.left h hb ha sb sa this
  exact ⟨h1, h2, h3, fun m => ⟨fun hm => ((h4 m).1 hm.symm).symm, fun hm => ((h4 m).2 hm.symm).symm⟩⟩
theorem IsMeet.self (D : Nat → Int) (a : Nat) : IsMeet D a a a := ⟨.here a, .here a, fun x h _ => h⟩
theorem isMeet_ex {n : Nat} {P : Nat → Nat} {D : Nat → Int} (h : Arr n P D) : ∀ k a b : Nat, P a + P b ≤ k → a < n → b < n → SetD D a → SetD D b → ∃ m, IsMeet D a b m := fun k => by
  induction k with
  | zero =>
    intro a b hk ha hb _ _
    obtain rfl := h.inj a b ha hb (by omega)
    exact ⟨a, .self D a⟩
  | succ k ih =>
    intro a b hk ha hb sa sb
    by_cases e : a = b
    · subst e; exact ⟨a, .self D a⟩
    · by_cases hlt : P b < P a
      · obtain ⟨h0, h1, h2, h3⟩ := IsMeet.left h ha hb sa sb hlt
        have := h.falls a h0
        obtain ⟨m, hm⟩ := ih (D a).toNat b (by omega) h1 hb h2 sb
        exact ⟨m, (h3 m).1 hm⟩
      · obtain ⟨h0, h1, h2, h3⟩ := IsMeet.right h ha hb sa sb e hlt
        have := h.falls b h0
        obtain ⟨m, hm⟩ := ih a (D b).toNat (by omega) ha h1 sa h2
        exact ⟨m, (h3 m).1 hm⟩

abbrev plcC (n : Nat) (P : Nat → Nat) : Ch := .vec 3 1 n fun j => [.int .i64 (P j : Int)]
abbrev arrC (n : Nat) (D : Nat → Int) : Ch := .vec 3 1 n fun j => [.int .i64 (D j)]
abbrev HM (n : Nat) (P : Nat → Nat) (D : Nat → Int) : List (Nat × Ch) := [(0, .box [.own 2]), (1, .box [.own 3]), (2, plcC n P), (3, arrC n D)]

theorem meet_spec {n : Nat} {P : Nat → Nat} {D : Nat → Int} (hA : Arr n P D) {a b m : Nat} (ha : a < n) (hb : b < n) (sa : SetD D a) (sb : SetD D b) (hm : IsMeet D a b m) :
    Proc PG 25 4 [vi (a : Int), vi (b : Int), .ptr 0 0, .ptr 1 0] [.box [.own 2], .box [.own 3], plcC n P, arrC n D] (vi (m : Int)) [.box [.own 2], .box [.own 3], plcC n P, arrC n D] := by
  refine Proc.mk (cfgF 28 4) tysOK [0, 1, 2, 3] Try.func25 rfl (by kernel_rfl) rfl rfl rfl ?_
  intro C x
  refine x.loop (α := { y : Nat × Nat // y.1 < n ∧ y.2 < n ∧ SetD D y.1 ∧ SetD D y.2 ∧ IsMeet D y.1 y.2 m }) (fun y => ⟨[(0, vi (y.1.1 : Int)), (1, vi (y.1.2 : Int)), (2, .ptr 0 0), (3, .ptr 1 0)], HM n P D, 4⟩) (fun y => P y.1.1 + P y.1.2) ⟨(a, b), ha, hb, sa, sb, hm⟩ rfl trivial ?_ (fun y => ?_)
  · exact ⟨⟨rfl, rfl, ⟨rfl, rfl⟩, ⟨rfl, rfl⟩, trivial⟩, ⟨⟨rfl, trivial⟩, ⟨rfl, trivial⟩, ⟨rfl, rfl, rfl, fun _ _ => rfl⟩, ⟨rfl, rfl, rfl, fun _ _ => rfl⟩, trivial⟩, rfl⟩
  obtain ⟨⟨a, b⟩, ha, hb, sa, sb, hm⟩ := y
  have ha : a < n := ha
  have hb : b < n := hb
  have hm : IsMeet D a b m := hm
  change Go C _ ⟨[(0, vi (a : Int)), (1, vi (b : Int)), (2, .ptr 0 0), (3, .ptr 1 0)], HM n P D, 4⟩ _
  refine x.cond rfl trivial (fun h1 => ?_) (fun h1 => ?_)
  · have h1 : a ≠ b := by
      have : (!decide ((a : Int) = (b : Int))) = true := h1
      simp at this; omega
    refine x.quiet rfl trivial mixedP (by kernel_rfl) ?_
    refine x.qdone rfl ?_ ?_
    · simp only [AllP]; omega
    refine x.cond rfl trivial (fun h2 => ?_) (fun h2 => ?_)
    · have h2 : P b < P a := by
        have : decide (((P ((a : Int)).toNat : Nat) : Int) > (P ((b : Int)).toNat : Nat)) = true := h2
        have := of_decide_eq_true this
        rw [Int.toNat_natCast, Int.toNat_natCast] at this
        omega
      obtain ⟨g0, g1, g2, g3⟩ := IsMeet.left hA ha hb sa sb h2
      have := hA.falls a g0
      refine x.back rfl (by simp only [AllP]; omega) ⟨⟨((D a).toNat, b), g1, hb, g2, sb, (g3 m).2 hm⟩, by show P (D a).toNat + P b < P a + P b; omega, ?_⟩
      refine ⟨⟨?_, rfl, ⟨rfl, rfl⟩, ⟨rfl, rfl⟩, trivial⟩, ⟨⟨rfl, trivial⟩, ⟨rfl, trivial⟩, ⟨rfl, rfl, rfl, fun _ _ => rfl⟩, ⟨rfl, rfl, rfl, fun _ _ => rfl⟩, trivial⟩, rfl⟩
      show D ((a : Int)).toNat = (((D a).toNat : Nat) : Int)
      rw [Int.toNat_natCast]; omega
    · have h2 : ¬ P b < P a := by
        have : decide (((P ((a : Int)).toNat : Nat) : Int) > (P ((b : Int)).toNat : Nat)) = false := h2
        have := of_decide_eq_false this
        rw [Int.toNat_natCast, Int.toNat_natCast] at this
        omega
      obtain ⟨g0, g1, g2, g3⟩ := IsMeet.right hA ha hb sa sb h1 h2
      have := hA.falls b g0
      refine x.back rfl (by simp only [AllP]; omega) ⟨⟨(a, (D b).toNat), ha, g1, sa, g2, (g3 m).2 hm⟩, by show P a + P (D b).toNat < P a + P b; omega, ?_⟩
      refine ⟨⟨rfl, ?_, ⟨rfl, rfl⟩, ⟨rfl, rfl⟩, trivial⟩, ⟨⟨rfl, trivial⟩, ⟨rfl, trivial⟩, ⟨rfl, rfl, rfl, fun _ _ => rfl⟩, ⟨rfl, rfl, rfl, fun _ _ => rfl⟩, trivial⟩, rfl⟩
      show D ((b : Int)).toNat = (((D b).toNat : Nat) : Int)
      rw [Int.toNat_natCast]; omega
  · have h1 : a = b := by
      have : (!decide ((a : Int) = (b : Int))) = false := h1
      simp at this; omega
    subst h1
    have := hm.uniq hA (.self D a)
    subst this
    refine x.exit rfl trivial ?_
    exact ⟨.inr rfl, rfl, ⟨⟨rfl, trivial⟩, ⟨rfl, trivial⟩, ⟨rfl, rfl, rfl, fun _ _ => rfl⟩, ⟨rfl, rfl, rfl, fun _ _ => rfl⟩, trivial⟩, rfl⟩
end Go.Proofs.Ytiobpiglhbincaa

/- What a row of preceding nodes is nearest to; the immediate dominators. -/
namespace Go.Proofs.Ytiobpiglhbincaa
open Go.Sx
set_option linter.unusedVariables false
set_option linter.unusedSimpArgs false
set_option maxRecDepth 100000

theorem Stg.arr {to : List (List Int)} {P : Nat → Nat} (hn : Net to P) {k p : Nat} {D : Nat → Int} (h : Stg to P k p D) : Arr to.length P D :=
  ⟨⟨hn.hg.1, hn.hg.2.1⟩, hn.zero, hn.inj, h.d0, h.rng, h.falls, h.next⟩
/-- What the first j of a row are nearest to. -/
def NearOf (D : Nat → Int) (row : List Int) (j : Nat) (m : Int) : Prop :=
  (m = -1 ∧ ∀ i, i < j → ¬ SetD D (row.getD i 0).toNat) ∨
  (0 ≤ m ∧ (∃ i, i < j ∧ SetD D (row.getD i 0).toNat) ∧ (∀ i, i < j → SetD D (row.getD i 0).toNat → Chn D (row.getD i 0).toNat m.toNat) ∧
    ∀ x, (∀ i, i < j → SetD D (row.getD i 0).toNat → Chn D (row.getD i 0).toNat x) → Chn D m.toNat x)
theorem NearOf.zero (D : Nat → Int) (row : List Int) : NearOf D row 0 (-1) := .inl ⟨rfl, fun i hi => by omega⟩
theorem NearOf.skip {D : Nat → Int} {row : List Int} {j : Nat} {m : Int} (h : NearOf D row j m) (hs : ¬ SetD D (row.getD j 0).toNat) : NearOf D row (j + 1) m := by
  rcases h with ⟨h1, h2⟩ | ⟨h1, ⟨i, hi, h2⟩, h3, h4⟩
  · refine .inl ⟨h1, fun i hi => ?_⟩
    by_cases e : i = j
    · rw [e]; exact hs
    · exact h2 i (by omega)
  · refine .inr ⟨h1, ⟨i, by omega, h2⟩, fun i hi h5 => ?_, fun x hx => h4 x fun i hi h5 => hx i (by omega) h5⟩
    by_cases e : i = j
    · rw [e] at h5; exact absurd h5 hs
    · exact h3 i (by omega) h5
theorem NearOf.one {D : Nat → Int} {row : List Int} {j : Nat} {m : Int} (h : NearOf D row j m) (hm : m < 0) (hp : 0 ≤ row.getD j 0) (hs : SetD D (row.getD j 0).toNat) : NearOf D row (j + 1) (row.getD j 0) := by
  rcases h with ⟨_, h2⟩ | ⟨h1, _⟩
  · refine .inr ⟨hp, ⟨j, by omega, hs⟩, fun i hi h5 => ?_, fun x hx => hx j (by omega) hs⟩
    by_cases e : i = j
    · rw [e]; exact .here _
    · exact absurd h5 (h2 i (by omega))
  · omega
theorem NearOf.meet {D : Nat → Int} {row : List Int} {j k : Nat} {m : Int} (h : NearOf D row j m) (hm : 0 ≤ m) (hs : SetD D (row.getD j 0).toNat) (hk : IsMeet D m.toNat (row.getD j 0).toNat k) : NearOf D row (j + 1) (k : Int) := by
  rcases h with ⟨h1, _⟩ | ⟨h1, ⟨i, hi, h2⟩, h3, h4⟩
  · omega
  · refine .inr ⟨by omega, ⟨j, by omega, hs⟩, fun i hi h5 => ?_, fun x hx => ?_⟩
    · rw [Int.toNat_natCast]
      by_cases e : i = j
      · rw [e]; exact hk.r
      · exact (h3 i (by omega) h5).trans hk.l
    · rw [Int.toNat_natCast]
      exact hk.first x (h4 x fun i hi h5 => hx i (by omega) h5) (hx j (by omega) hs)
theorem NearOf.low {D : Nat → Int} {row : List Int} {j : Nat} {m : Int} (h : NearOf D row j m) : m = -1 ∨ 0 ≤ m := by
  rcases h with ⟨h1, _⟩ | ⟨h1, _⟩
  · exact .inl h1
  · exact .inr h1
theorem NearOf.lt {n : Nat} {P : Nat → Nat} {D : Nat → Int} (hA : Arr n P D) {row : List Int} {j : Nat} {m : Int} (h : NearOf D row j m) (hr : ∀ i, i < j → 0 ≤ row.getD i 0 ∧ row.getD i 0 < n) (hm : 0 ≤ m) : m < n ∧ SetD D m.toNat := by
  rcases h with ⟨h1, _⟩ | ⟨h1, ⟨i, hi, h2⟩, h3, h4⟩
  · omega
  · have := hr i hi
    have := hA.chn (v := (row.getD i 0).toNat) (by omega) h2 (h3 i hi h2)
    exact ⟨by omega, this.2⟩
theorem mem_idx {l : List Int} {y : Int} : y ∈ l ↔ ∃ i, i < l.length ∧ l.getD i 0 = y := by
  constructor
  · intro h
    obtain ⟨i, hi, e⟩ := List.getElem_of_mem h
    exact ⟨i, hi, by rw [← getD_at hi]; exact e⟩
  · rintro ⟨i, hi, rfl⟩
    exact getD_in hi
/-- What the whole row is nearest to is where the chains meet. -/
theorem NearOf.toMeet {to : List (List Int)} {P : Nat → Nat} (hn : Net to P) {k p : Nat} {D : Nat → Int} (h : Stg to P k p D) {v : Nat} (hv : v < to.length) (hv0 : v ≠ 0) (hp : P v = p) {m : Int} (hm : NearOf D ((backL to).getD v []) ((backL to).getD v []).length m) : 0 ≤ m ∧ Meet to D v m.toNat := by
  have mem : ∀ u : Nat, u < to.length → (v : Int) ∈ to.getD u [] → ∃ i, i < ((backL to).getD v []).length ∧ ((backL to).getD v []).getD i 0 = (u : Int) := fun u hu hm =>
    mem_idx.1 ((mem_backL hn.hg hv).2 ⟨hu, hm⟩)
  have memi : ∀ i, i < ((backL to).getD v []).length → ∃ u : Nat, ((backL to).getD v []).getD i 0 = (u : Int) ∧ u < to.length ∧ (v : Int) ∈ to.getD u [] := fun i hi => by
    have h1 := getD_in hi
    have h2 := (gok_row (backL_gok hn.hg) (i := v) (by rw [backL_len]; exact hv)).1 _ h1
    refine ⟨(((backL to).getD v []).getD i 0).toNat, by omega, ?_⟩
    exact (mem_backL hn.hg hv).1 (by rw [show (((((backL to).getD v []).getD i 0).toNat : Nat) : Int) = ((backL to).getD v []).getD i 0 by omega]; exact h1)
  obtain ⟨u, h1, h2, h3⟩ := hn.pred v hv hv0
  have hs := h.set u h1 (.inr (by omega))
  obtain ⟨i, hi, e⟩ := mem u h1 h2
  rcases hm with ⟨_, h5⟩ | ⟨h5, h6, h7, h8⟩
  · exact absurd (by rw [e, Int.toNat_natCast]; exact hs) (h5 i hi)
  · refine ⟨h5, ⟨u, h1, h2, hs⟩, fun u hu hm hsu => ?_, fun x hx => h8 x fun i hi hsi => ?_⟩
    · obtain ⟨i, hi, e⟩ := mem u hu hm
      have := h7 i hi (by rw [e, Int.toNat_natCast]; exact hsu)
      rwa [e, Int.toNat_natCast] at this
    · obtain ⟨u, e, hu, hm⟩ := memi i hi
      rw [e, Int.toNat_natCast] at hsi ⊢
      exact hx u hu hm hsi

/-! ### immediate dominators -/
def IsI (to : List (List Int)) (v a : Nat) : Prop := a ≠ v ∧ Dom to a v ∧ ∀ k, k < to.length → k ≠ v → Dom to k v → Dom to k a
noncomputable def isB (to : List (List Int)) (v a : Nat) : Bool := @decide (IsI to v a) (Classical.propDecidable _)
theorem isB_iff {to : List (List Int)} {v a : Nat} : isB to v a = true ↔ IsI to v a := @decide_eq_true_iff _ (Classical.propDecidable _)
/-- The last of the first n. -/
def lastI (b : Nat → Bool) : Nat → Int
  | 0 => -1
  | k + 1 => if b k then (k : Int) else lastI b k
theorem lastI_none {b : Nat → Bool} : ∀ {n : Nat}, (∀ k, k < n → b k = false) → lastI b n = -1
  | 0, _ => rfl
  | n + 1, h => by rw [lastI, h n (by omega)]; simpa using lastI_none fun k hk => h k (by omega)
theorem lastI_one {b : Nat → Bool} {a : Nat} (ha : b a = true) : ∀ {n : Nat}, a < n → (∀ k, k < n → b k = true → k = a) → lastI b n = a
  | 0, h, _ => by omega
  | n + 1, h, hu => by
    rw [lastI]
    cases hb : b n with
    | true => rw [hu n (by omega) hb]; rfl
    | false =>
      have : a ≠ n := fun e => by rw [e, hb] at ha; cases ha
      simpa using lastI_one ha (by omega) fun k hk => hu k (by omega)
noncomputable def idomF (to : List (List Int)) (v : Nat) : Int := lastI (isB to v) to.length
theorem Tre.idom {to : List (List Int)} {P : Nat → Nat} (hn : Net to P) {D : Nat → Int} (h : Tre to P D) {v : Nat} (hv : v < to.length) : D v = idomF to v := by
  by_cases h0 : v = 0
  · subst h0
    rw [h.d0, idomF, lastI_none]
    intro k hk
    cases hb : isB to 0 k with
    | false => rfl
    | true =>
      have := isB_iff.1 hb
      exact absurd (Way.here (by have := this.1; omega)) this.2.1
  · obtain ⟨r1, r2⟩ := h.rng v hv h0
    have hf := h.falls v r1
    have hup : Chn D v (D v).toNat := .up r1 (.here _)
    have next : ∀ x, x ≠ v → Dom to x v → Chn D (D v).toNat x := fun x hx hd => by
      rcases ((h.dom v hv x).2 hd).cases' with e | ⟨_, e⟩
      · exact absurd e.symm hx
      · exact e
    have hI : IsI to v (D v).toNat := ⟨fun e => by rw [e] at hf; omega, (h.dom v hv _).1 hup, fun k hk hne hd => (h.dom _ (by omega) k).1 (next k hne hd)⟩
    rw [idomF, lastI_one (a := (D v).toNat) (isB_iff.2 hI) (by omega)]
    · omega
    · intro k hk hb
      have hk2 := isB_iff.1 hb
      have c1 := (next k hk2.1 hk2.2.1).le h.falls
      have c2 := ((h.dom k hk _).2 (hk2.2.2 _ (by omega) hI.1 hI.2.1)).le h.falls
      exact c1.2 (by omega)
def AllSeen (to : List (List Int)) : Prop := GOK to ∧ ∀ v, v < to.length → seen to 0 v = true
open Classical in
noncomputable def treeL (to : List (List Int)) : List Int := if AllSeen to then (List.range to.length).map (idomF to) else []
theorem treeL_not {to : List (List Int)} (h : ¬ AllSeen to) : treeL to = [] := if_neg h
theorem treeL_yes {to : List (List Int)} (h : AllSeen to) : treeL to = (List.range to.length).map (idomF to) := if_pos h
theorem treeL_len {to : List (List Int)} (h : AllSeen to) : (treeL to).length = to.length := by rw [treeL_yes h]; simp
theorem getD_map_int (n : Nat) (f : Nat → Int) {v : Nat} (hv : v < n) : ((List.range n).map f).getD v 0 = f v := by
  rw [List.getD_eq_getElem?_getD, List.getElem?_eq_getElem (by simpa using hv)]
  simp
theorem treeL_at {to : List (List Int)} (h : AllSeen to) {v : Nat} (hv : v < to.length) : (treeL to).getD v 0 = idomF to v := by
  rw [treeL_yes h]; exact getD_map_int _ _ hv
theorem lostN_iff (to : List (List Int)) : AllSeen to ↔ GOK to ∧ lostN to < 0 := by
  constructor
  · rintro ⟨hg, hs⟩
    refine ⟨hg, ?_⟩
    rw [lostN, if_pos hg, fstB_none fun j hj => by rw [hs j hj]; simp]
    omega
  · rintro ⟨hg, hl⟩
    refine ⟨hg, fun v hv => ?_⟩
    rw [lostN, if_pos hg] at hl
    cases hb : seen to 0 v with
    | true => rfl
    | false =>
      exfalso
      have find : ∀ n, (∃ i, i < n ∧ seen to 0 i = false) → ∃ i, i < n ∧ seen to 0 i = false ∧ ∀ j, j < i → seen to 0 j ≠ false := fun n => by
        induction n with
        | zero => rintro ⟨i, hi, _⟩; omega
        | succ n ih =>
          rintro ⟨i, hi, h⟩
          by_cases hx : ∃ i, i < n ∧ seen to 0 i = false
          · obtain ⟨i, a, b, c⟩ := ih hx
            exact ⟨i, by omega, b, c⟩
          · exact ⟨i, hi, h, fun j hj e => hx ⟨j, by omega, e⟩⟩
      obtain ⟨i, hi, e, hno⟩ := find to.length ⟨v, hv, hb⟩
      rw [fstB_found hi e hno] at hl
      omega
theorem AllSeen.net {to : List (List Int)} (h : AllSeen to) : Net to (plc to) := net_of h.1 h.2
end Go.Proofs.Ytiobpiglhbincaa

/- The walk of dom.Tree. -/
namespace Go.Proofs.Ytiobpiglhbincaa
open Go.Sx
set_option linter.unusedVariables false
set_option linter.unusedSimpArgs false
set_option maxRecDepth 100000

/-- Places, of the first k of an order; 0 for what isn't there yet. -/
def plF (O : List Int) (k v : Nat) : Int := if pl O k v < 0 then 0 else pl O k v
abbrev intC (n : Nat) (f : Nat → Int) : Ch := .vec 3 1 n fun j => [.int .i64 (f j)]
abbrev HT (n : Nat) (P : Nat → Nat) (D : Nat → Int) : List (Nat × Ch) := [(0, plcC n P), (1, .box [.own 0]), (2, arrC n D), (3, .box [.own 2])]
abbrev meetV : V := .fn 25 [.ptr 1 0, .ptr 3 0]

theorem tree_spec (to : List (List Int)) (hf : Fit to) : Pure PG 9 [gv to] (iv (treeL to)) [] := by
  refine Proc.mk (cfg 110) tysOK [] Try.func9 rfl (by kernel_rfl) rfl rfl rfl ?_
  intro C x
  refine x.jumpBack (α := { y : Nat × (Nat → Int) // AllSeen to ∧ Stg to (plc to) y.1 1 y.2 ∧ y.1 ≤ to.length + 1 }) 0 (fun y => ⟨[(0, gv to), (5, iv (orderL to)), (6, gv (backL to)), (7, .ptr 1 0), (10, .ptr 3 0), (12, meetV)], HT to.length (plc to) y.1.2, 4⟩) (fun y => to.length + 1 - y.1.1) rfl trivial rfl rfl ?_ (fun y => ?_)
  · refine x.pure rfl trivial rfl (lost_spec to hf) ⟨veq_d rfl, trivial⟩ ?_
    refine x.pureG rfl trivial rfl (fun _ => right_spec to hf) rfl ⟨veq_d rfl, trivial⟩ ?_
    refine x.cond rfl trivial (fun h => ?_) (fun h => ?_)
    · have hno : ¬ AllSeen to := fun ha => by
        obtain ⟨a, b⟩ := (lostN_iff to).1 ha
        have h : (bif decide (0 ≤ lostN to) then true else !decide (GOK to)) = true := h
        rw [decide_eq_false (by omega), decide_eq_true a] at h
        cases h
      refine x.exit rfl trivial ?_
      refine ⟨.inr rfl, ?_, trivial, rfl⟩
      show (treeL to).length = 0
      rw [treeL_not hno]; rfl
    have ha : AllSeen to := (lostN_iff to).2 (by
        have h : (bif decide (0 ≤ lostN to) then true else !decide (GOK to)) = false := h
        by_cases h1 : 0 ≤ lostN to
        · rw [decide_eq_true h1] at h; cases h
        · rw [decide_eq_false h1] at h
          by_cases h2 : GOK to
          · exact ⟨h2, by omega⟩
          · rw [decide_eq_false h2] at h; cases h)
    have hg := ha.1
    have hn := hg.2.1
    have ho := order_of hg
    have hol : (orderL to).length ≤ to.length := by
      rw [show orderL to = (post to).reverse by rw [orderL, if_pos hg], List.length_reverse]; exact post_len hg
    refine x.pure rfl trivial rfl (order_spec to hf) ⟨veq_d rfl, trivial⟩ ?_
    refine x.pure rfl trivial rfl (back_spec to hf) ⟨veq_d rfl, trivial⟩ ?_
    rw [show backG to = backL to by rw [backG, if_pos hg]]
    obtain ⟨O, hO⟩ : ∃ O, orderL to = O := ⟨_, rfl⟩
    rw [hO] at ho hol ⊢
    refine x.loop (α := { i : Nat // i ≤ O.length }) (fun y => ⟨[(0, gv to), (5, iv O), (6, gv (backL to)), (7, .ptr 1 0), (37, iv O), (38, vi (O.length : Int)), (39, vi (y.1 : Int))], [(0, intC to.length (plF O y.1)), (1, .box [.own 0])], 2⟩) (fun y => O.length - y.1) ⟨0, by omega⟩ rfl ?_ ?_ (fun y => ?_)
    · simp only [AllP, big, Int.toNat_natCast]; omega
    · exact ⟨⟨veq_d rfl, veq_d rfl, veq_d rfl, ⟨rfl, rfl⟩, veq_d rfl, rfl, rfl, trivial⟩, ⟨⟨rfl, rfl, rfl, fun _ _ => rfl⟩, ⟨rfl, trivial⟩, trivial⟩, rfl⟩
    obtain ⟨i, hi⟩ := y
    change Go C _ ⟨[(0, gv to), (5, iv O), (6, gv (backL to)), (7, .ptr 1 0), (37, iv O), (38, vi (O.length : Int)), (39, vi (i : Int))], [(0, intC to.length (plF O i)), (1, .box [.own 0])], 2⟩ _
    refine x.cond rfl trivial (fun h1 => ?_) (fun h1 => ?_)
    · have h1 : i < O.length := by have := of_decide_eq_true h1; omega
      have hin := ho.lt _ (getD_in h1)
      refine x.back rfl ?_ ⟨⟨i + 1, by omega⟩, by show O.length - (i + 1) < O.length - i; omega, ⟨veq_d rfl, veq_d rfl, veq_d rfl, ⟨rfl, rfl⟩, veq_d rfl, rfl, rfl, trivial⟩, ⟨⟨rfl, rfl, rfl, fun v hv => ?_⟩, ⟨rfl, trivial⟩, trivial⟩, rfl⟩
      · simp only [AllP, List.length, inI64]
        simp only [show ((i : Int)).toNat = i from rfl]
        omega
      · rw [put2_int]
        show [D.int .i64 (if v = (O.getD i 0).toNat then (i : Int) else plF O i v)] = [D.int .i64 (plF O (i + 1) v)]
        congr 2
        unfold plF
        simp only [pl]
        split
        · rw [if_neg (by omega)]
        · rfl
    have h1 : i = O.length := by have := of_decide_eq_false h1; omega
    subst h1
    refine x.loop (α := { i : Nat // i ≤ to.length }) (fun y => ⟨[(0, gv to), (5, iv O), (6, gv (backL to)), (7, .ptr 1 0), (10, .ptr 3 0), (53, vi (to.length : Int)), (54, vi (y.1 : Int))], [(0, intC to.length (plF O O.length)), (1, .box [.own 0]), (2, intC to.length fun v => if v < y.1 then -1 else 0), (3, .box [.own 2])], 4⟩) (fun y => to.length - y.1) ⟨0, by omega⟩ rfl ?_ ?_ (fun y => ?_)
    · simp only [AllP, big, Int.toNat_natCast]; omega
    · exact ⟨⟨veq_d rfl, veq_d rfl, veq_d rfl, ⟨rfl, rfl⟩, ⟨rfl, rfl⟩, rfl, rfl, trivial⟩, ⟨⟨rfl, rfl, rfl, fun _ _ => rfl⟩, ⟨rfl, trivial⟩, ⟨rfl, rfl, rfl, fun _ _ => rfl⟩, ⟨rfl, trivial⟩, trivial⟩, rfl⟩
    obtain ⟨i, hi⟩ := y
    change Go C _ ⟨[(0, gv to), (5, iv O), (6, gv (backL to)), (7, .ptr 1 0), (10, .ptr 3 0), (53, vi (to.length : Int)), (54, vi (i : Int))], [(0, intC to.length (plF O O.length)), (1, .box [.own 0]), (2, intC to.length fun v => if v < i then -1 else 0), (3, .box [.own 2])], 4⟩ _
    refine x.cond rfl trivial (fun h1 => ?_) (fun h1 => ?_)
    · have h1 : i < to.length := by have := of_decide_eq_true h1; omega
      refine x.back rfl ?_ ⟨⟨i + 1, by omega⟩, by show to.length - (i + 1) < to.length - i; omega, ⟨veq_d rfl, veq_d rfl, veq_d rfl, ⟨rfl, rfl⟩, ⟨rfl, rfl⟩, rfl, rfl, trivial⟩, ⟨⟨rfl, rfl, rfl, fun _ _ => rfl⟩, ⟨rfl, trivial⟩, ⟨rfl, rfl, rfl, fun v hv => ?_⟩, ⟨rfl, trivial⟩, trivial⟩, rfl⟩
      · simp only [AllP, List.length, inI64]; omega
      · rw [put2_int]
        show [D.int .i64 (if v = ((i : Int)).toNat then -1 else if v < i then -1 else 0)] = [D.int .i64 (if v < i + 1 then -1 else 0)]
        rw [Int.toNat_natCast]
        congr 2
        by_cases e : v = i
        · rw [if_pos e, if_pos (by omega)]
        · rw [if_neg e]
          by_cases e2 : v < i
          · rw [if_pos e2, if_pos (by omega)]
          · rw [if_neg e2, if_neg (by omega)]
    have h1 : i = to.length := by have := of_decide_eq_false h1; omega
    subst h1
    refine x.back rfl trivial ⟨⟨(0, fun _ => -1), ha, Stg.start ha.net, by omega⟩, ?_⟩
    refine ⟨⟨veq_d rfl, veq_d (by rw [← hO]; rfl), veq_d rfl, ⟨rfl, rfl⟩, ⟨rfl, rfl⟩, rfl, trivial⟩, ⟨⟨rfl, rfl, rfl, fun v hv => ?_⟩, ⟨rfl, trivial⟩, ⟨rfl, rfl, rfl, fun v hv => ?_⟩, ⟨rfl, trivial⟩, trivial⟩, rfl⟩
    · show [D.int .i64 (plF O O.length v)] = [D.int .i64 ((plc to v : Nat) : Int)]
      unfold plF plc
      rw [hO]
      congr 2
      split <;> omega
    · show [D.int .i64 (if v < to.length then -1 else 0)] = [D.int .i64 (-1)]
      rw [if_pos hv]
  · obtain ⟨⟨k, D⟩, ha, hst, hk⟩ := y
    have hst : Stg to (plc to) k 1 D := hst
    have hk : k ≤ to.length + 1 := hk
    change Go C _ ⟨[(0, gv to), (5, iv (orderL to)), (6, gv (backL to)), (7, .ptr 1 0), (10, .ptr 3 0), (12, meetV)], HT to.length (plc to) D, 4⟩ _
    have hg := ha.1
    have hn := hg.2.1
    have hnet := ha.net
    have ho := order_of hg
    have hol : (orderL to).length ≤ to.length := by
      rw [show orderL to = (post to).reverse by rw [orderL, if_pos hg], List.length_reverse]; exact post_len hg
    obtain ⟨O, hO⟩ : ∃ O, orderL to = O := ⟨_, rfl⟩
    have find : ∀ v, v < to.length → plc to v < O.length ∧ O.getD (plc to v) 0 = v := fun v hv => by
      obtain ⟨j, h1, h2, h3⟩ := order_find ho (ha.2 v hv)
      have : plc to v = j := by unfold plc; rw [h2, Int.toNat_natCast]
      rw [this, ← hO]; exact ⟨h1, h3⟩
    have place : ∀ i, i < O.length → plc to (O.getD i 0).toNat = i := fun i hi => by
      rw [hO] at ho
      have h1 := ho.lt _ (getD_in hi)
      obtain ⟨h2, h3⟩ := find (O.getD i 0).toNat (by omega)
      exact nodup_idx ho.nodup h2 hi (by omega)
    rw [hO] at ho hol ⊢
    refine x.loop (α := { y : Nat × (Nat → Int) × Bool // y.1 + 1 ≤ O.length ∧ Stg to (plc to) k (y.1 + 1) y.2.1 ∧ (y.2.2 = true → k ≤ to.length) ∧ (y.2.2 = false → y.2.1 = D ∧ ∀ v, v < to.length → v ≠ 0 → plc to v < y.1 + 1 → Meet to D v (D v).toNat) })
      (fun y => ⟨[(0, gv to), (5, iv O), (6, gv (backL to)), (7, .ptr 1 0), (10, .ptr 3 0), (12, meetV), (13, vb y.1.2.2), (63, .d (.sl 1 (O.length - 1) fun j => [.int .i64 (O.getD (j + 1) 0)])), (64, vi ((O.length - 1 : Nat) : Int)), (65, vi (y.1.1 : Int))], HT to.length (plc to) y.1.2.1, 4⟩)
      (fun y => O.length - y.1.1) ⟨(0, D, false), by have := ho.first.2; omega, hst, by simp, fun _ => ⟨rfl, fun v hv h0 hp => absurd (hnet.zero_of hv hp) h0⟩⟩ rfl ?_ ?_ (fun y => ?_)
    · simp only [AllP]
      have := ho.first.2
      omega
    · refine ⟨⟨veq_d rfl, veq_d rfl, veq_d rfl, ⟨rfl, rfl⟩, ⟨rfl, rfl⟩, rfl, rfl, ?_, rfl, rfl, trivial⟩, ⟨⟨rfl, rfl, rfl, fun _ _ => rfl⟩, ⟨rfl, trivial⟩, ⟨rfl, rfl, rfl, fun _ _ => rfl⟩, ⟨rfl, trivial⟩, trivial⟩, rfl⟩
      exact veq_d (congrArg (Sx.D.sl 1 (O.length - 1)) (funext fun j => by show [Sx.D.int .i64 (O.getD (1 + j) 0)] = [Sx.D.int .i64 (O.getD (j + 1) 0)]; rw [Nat.add_comm]))
    obtain ⟨⟨j, E, ch⟩, hj, hE, hch, hno⟩ := y
    have hj : j + 1 ≤ O.length := hj
    have hE : Stg to (plc to) k (j + 1) E := hE
    have hch : ch = true → k ≤ to.length := hch
    have hno : ch = false → E = D ∧ ∀ v, v < to.length → v ≠ 0 → plc to v < j + 1 → Meet to D v (D v).toNat := hno
    change Go C _ ⟨[(0, gv to), (5, iv O), (6, gv (backL to)), (7, .ptr 1 0), (10, .ptr 3 0), (12, meetV), (13, vb ch), (63, .d (.sl 1 (O.length - 1) fun j => [.int .i64 (O.getD (j + 1) 0)])), (64, vi ((O.length - 1 : Nat) : Int)), (65, vi (j : Int))], HT to.length (plc to) E, 4⟩ _
    have hA := hE.arr hnet
    refine x.cond rfl trivial (fun h1 => ?_) (fun h1 => ?_)
    · have h1 : j + 1 < O.length := by have := of_decide_eq_true h1; omega
      have hin := ho.lt _ (getD_in h1)
      have hpl := place (j + 1) h1
      obtain ⟨v, hv⟩ : ∃ v : Nat, O.getD (j + 1) 0 = (v : Int) := ⟨(O.getD (j + 1) 0).toNat, by omega⟩
      rw [hv] at hin hpl
      rw [Int.toNat_natCast] at hpl
      have hvl : v < to.length := by omega
      have hv0 : v ≠ 0 := fun e => by rw [e, hnet.zero] at hpl; omega
      obtain ⟨row, hrow⟩ : ∃ l, (backL to).getD v [] = l := ⟨_, rfl⟩
      have hro : RowOK to.length row := by
        have := gok_row (backL_gok hg) (i := v) (by rw [backL_len]; exact hvl)
        rw [hrow, backL_len] at this; exact this
      have hrl : row.length ≤ 256 := Nat.le_trans (row_len hro) hn
      refine x.loop (α := { z : Nat × Int // z.1 ≤ row.length ∧ NearOf E row z.1 z.2 })
        (fun z => ⟨[(0, gv to), (5, iv O), (6, gv (backL to)), (7, .ptr 1 0), (10, .ptr 3 0), (12, meetV), (13, vb ch), (63, .d (.sl 1 (O.length - 1) fun j => [.int .i64 (O.getD (j + 1) 0)])), (64, vi ((O.length - 1 : Nat) : Int)), (65, vi (j : Int)), (15, vi (v : Int)), (16, vi z.1.2), (72, iv row), (73, vi (row.length : Int)), (74, vi (z.1.1 : Int))], HT to.length (plc to) E, 4⟩)
        (fun z => row.length - z.1.1) ⟨(0, -1), by omega, NearOf.zero E row⟩ rfl ?_ ?_ (fun z => ?_)
      · simp only [AllP]
        simp only [show ((j : Int)).toNat = j from rfl, hv, backL_len]
        omega
      · refine ⟨⟨veq_d rfl, veq_d rfl, veq_d rfl, ⟨rfl, rfl⟩, ⟨rfl, rfl⟩, rfl, rfl, veq_d rfl, rfl, rfl, ?_, rfl, ?_, ?_, rfl, trivial⟩, ⟨⟨rfl, rfl, rfl, fun _ _ => rfl⟩, ⟨rfl, trivial⟩, ⟨rfl, rfl, rfl, fun _ _ => rfl⟩, ⟨rfl, trivial⟩, trivial⟩, rfl⟩
        · exact hv
        · refine veq_d ?_
          show dInts ((backL to).getD (O.getD (j + 1) 0).toNat []) = dInts row
          rw [hv, Int.toNat_natCast, hrow]
        · show (((backL to).getD (O.getD (j + 1) 0).toNat []).length : Int) = row.length
          rw [hv, Int.toNat_natCast, hrow]
      obtain ⟨⟨i, m⟩, hi, hm⟩ := z
      have hi : i ≤ row.length := hi
      have hm : NearOf E row i m := hm
      change Go C _ ⟨[(0, gv to), (5, iv O), (6, gv (backL to)), (7, .ptr 1 0), (10, .ptr 3 0), (12, meetV), (13, vb ch), (63, .d (.sl 1 (O.length - 1) fun j => [.int .i64 (O.getD (j + 1) 0)])), (64, vi ((O.length - 1 : Nat) : Int)), (65, vi (j : Int)), (15, vi (v : Int)), (16, vi m), (72, iv row), (73, vi (row.length : Int)), (74, vi (i : Int))], HT to.length (plc to) E, 4⟩ _
      have hrow2 : ∀ i, i < row.length → 0 ≤ row.getD i 0 ∧ row.getD i 0 < to.length := fun i hi => hro.1 _ (getD_in hi)
      refine x.cond rfl trivial (fun h2 => ?_) (fun h2 => ?_)
      · have h2 : i < row.length := by have := of_decide_eq_true h2; omega
        obtain ⟨u, hu⟩ : ∃ u : Nat, row.getD i 0 = (u : Int) := ⟨(row.getD i 0).toNat, by have := hrow2 i h2; omega⟩
        have hul : u < to.length := by have := hrow2 i h2; omega
        have huI : (row.getD (i : Int).toNat 0) = (u : Int) := hu
        refine x.cond rfl ?_ (fun h3 => ?_) (fun h3 => ?_)
        · simp only [AllP]
          simp only [huI]
          omega
        · have h3 : ¬ SetD E (row.getD i 0).toNat := by
            have h3 : (!decide (row.getD (i : Int).toNat 0 = 0) && decide (E (row.getD (i : Int).toNat 0).toNat < 0)) = true := h3
            rw [huI] at h3
            rw [hu, Int.toNat_natCast]
            rw [Int.toNat_natCast] at h3
            rintro (e | e)
            · rw [e] at h3; cases h3
            · rw [decide_eq_false (by omega : ¬ E u < 0)] at h3
              cases hd : decide ((u : Int) = 0) <;> rw [hd] at h3 <;> cases h3
          refine x.back rfl (show inI64 _ by unfold inI64; omega) ⟨⟨(i + 1, m), by show i + 1 ≤ _; omega, hm.skip h3⟩, by show row.length - (i + 1) < row.length - i; omega, ⟨veq_d rfl, veq_d rfl, veq_d rfl, ⟨rfl, rfl⟩, ⟨rfl, rfl⟩, rfl, rfl, veq_d rfl, rfl, rfl, rfl, rfl, veq_d rfl, rfl, rfl, trivial⟩, ⟨⟨rfl, rfl, rfl, fun _ _ => rfl⟩, ⟨rfl, trivial⟩, ⟨rfl, rfl, rfl, fun _ _ => rfl⟩, ⟨rfl, trivial⟩, trivial⟩, rfl⟩
        · have h3 : SetD E (row.getD i 0).toNat := by
            have h3 : (!decide (row.getD (i : Int).toNat 0 = 0) && decide (E (row.getD (i : Int).toNat 0).toNat < 0)) = false := h3
            rw [huI, Int.toNat_natCast] at h3
            rw [hu, Int.toNat_natCast]
            by_cases e : u = 0
            · exact .inl e
            · rw [decide_eq_false (by omega : ¬ (u : Int) = 0)] at h3
              exact .inr (by have := of_decide_eq_false h3; omega)
          refine x.cond rfl trivial (fun h4 => ?_) (fun h4 => ?_)
          · have h4 : m < 0 := of_decide_eq_true h4
            refine x.back rfl (show inI64 _ by unfold inI64; omega) ⟨⟨(i + 1, row.getD i 0), by show i + 1 ≤ _; omega, hm.one h4 (by rw [hu]; omega) h3⟩, by show row.length - (i + 1) < row.length - i; omega, ⟨veq_d rfl, veq_d rfl, veq_d rfl, ⟨rfl, rfl⟩, ⟨rfl, rfl⟩, rfl, rfl, veq_d rfl, rfl, rfl, rfl, rfl, veq_d rfl, rfl, rfl, trivial⟩, ⟨⟨rfl, rfl, rfl, fun _ _ => rfl⟩, ⟨rfl, trivial⟩, ⟨rfl, rfl, rfl, fun _ _ => rfl⟩, ⟨rfl, trivial⟩, trivial⟩, rfl⟩
          · have h4 : 0 ≤ m := by have := of_decide_eq_false h4; omega
            obtain ⟨c1, c2⟩ := hm.lt hA (fun i hi => hrow2 i (by omega)) h4
            obtain ⟨q, hq⟩ := isMeet_ex hA _ m.toNat (row.getD i 0).toNat (Nat.le_refl _) (by omega) (by rw [hu]; omega) c2 h3
            refine x.call [1, 3, 0, 2] rfl trivial rfl (meet_spec hA (by omega) (by rw [hu]; omega) c2 h3 hq) rfl ?_ ?_ ?_
            · refine ⟨?_, ?_, ⟨rfl, rfl⟩, ⟨rfl, rfl⟩, trivial⟩
              · show m = ((m.toNat : Nat) : Int); omega
              · show row.getD i 0 = (((row.getD i 0).toNat : Nat) : Int); rw [hu]; rfl
            · exact ⟨⟨rfl, trivial⟩, ⟨rfl, trivial⟩, ⟨rfl, rfl, rfl, fun _ _ => rfl⟩, ⟨rfl, rfl, rfl, fun _ _ => rfl⟩, trivial⟩
            refine x.back rfl (show inI64 _ by unfold inI64; omega) ⟨⟨(i + 1, (q : Int)), by show i + 1 ≤ _; omega, hm.meet h4 h3 hq⟩, by show row.length - (i + 1) < row.length - i; omega, ⟨veq_d rfl, veq_d rfl, veq_d rfl, ⟨rfl, rfl⟩, ⟨rfl, rfl⟩, rfl, rfl, veq_d rfl, rfl, rfl, rfl, rfl, veq_d rfl, rfl, rfl, trivial⟩, ⟨⟨rfl, rfl, rfl, fun _ _ => rfl⟩, ⟨rfl, trivial⟩, ⟨rfl, rfl, rfl, fun _ _ => rfl⟩, ⟨rfl, trivial⟩, trivial⟩, rfl⟩
      · have h2 : i = row.length := by have := of_decide_eq_false h2; omega
        subst h2
        rw [← hrow] at hm
        obtain ⟨hm0, hmt⟩ := hm.toMeet hnet hE hvl hv0 hpl
        have hnext := hE.next_node hnet hvl hv0 hpl hmt
        obtain ⟨q, rfl⟩ : ∃ q : Nat, m = (q : Int) := ⟨m.toNat, by omega⟩
        rw [Int.toNat_natCast] at hmt hnext
        refine x.cond rfl ?_ (fun h5 => ?_) (fun h5 => ?_)
        · simp only [AllP]; omega
        · have h5 : E v ≠ (q : Int) := by
            have : (!decide (E (v : Int).toNat = (q : Int))) = true := h5
            rw [Int.toNat_natCast] at this
            simpa using this
          have hkn : k ≤ to.length := by
            rcases Nat.lt_or_ge to.length k with h6 | h6
            · exact absurd (hE.still hnet hvl hv0 hpl hmt h6) h5
            · exact h6
          refine x.back rfl ?_ ⟨⟨(j + 1, updD E v (q : Int), true), by show j + 1 + 1 ≤ _; omega, hnext, fun _ => hkn, fun h => by cases h⟩, by show O.length - (j + 1) < O.length - j; omega, ⟨veq_d rfl, veq_d rfl, veq_d rfl, ⟨rfl, rfl⟩, ⟨rfl, rfl⟩, rfl, rfl, veq_d rfl, rfl, rfl, trivial⟩, ⟨⟨rfl, rfl, rfl, fun _ _ => rfl⟩, ⟨rfl, trivial⟩, ⟨rfl, rfl, rfl, fun w hw => ?_⟩, ⟨rfl, trivial⟩, trivial⟩, rfl⟩
          · simp only [AllP, List.length, inI64]; omega
          · rw [put2_int]; rfl
        · have h5 : E v = (q : Int) := by
            have : (!decide (E (v : Int).toNat = (q : Int))) = false := h5
            rw [Int.toNat_natCast] at this
            simpa using this
          have hsame : updD E v (q : Int) = E := by
            funext w
            unfold updD
            split
            · rename_i e; rw [e, h5]
            · rfl
          rw [hsame] at hnext
          refine x.back rfl ?_ ⟨⟨(j + 1, E, ch), by show j + 1 + 1 ≤ _; omega, hnext, hch, fun h => ?_⟩, by show O.length - (j + 1) < O.length - j; omega, ⟨veq_d rfl, veq_d rfl, veq_d rfl, ⟨rfl, rfl⟩, ⟨rfl, rfl⟩, rfl, rfl, veq_d rfl, rfl, rfl, trivial⟩, ⟨⟨rfl, rfl, rfl, fun _ _ => rfl⟩, ⟨rfl, trivial⟩, ⟨rfl, rfl, rfl, fun _ _ => rfl⟩, ⟨rfl, trivial⟩, trivial⟩, rfl⟩
          · simp only [AllP, List.length, inI64]; omega
          · obtain ⟨e, h6⟩ := hno h
            subst e
            refine ⟨rfl, fun w hw hw0 hp => ?_⟩
            by_cases e : w = v
            · subst e; rw [h5, Int.toNat_natCast]; exact hmt
            · refine h6 w hw hw0 ?_
              have : plc to w ≠ j + 1 := fun e2 => e (hnet.inj w v hw hvl (by omega))
              have hp : plc to w < j + 1 + 1 := hp
              omega
    · have h1 : j + 1 = O.length := by have := of_decide_eq_false h1; omega
      have hall : ∀ v, v < to.length → plc to v < j + 1 := fun v hv => by have := (find v hv).1; omega
      refine x.cond rfl trivial (fun h2 => ?_) (fun h2 => ?_)
      · have hk2 := hch h2
        refine x.exit rfl trivial ?_
        refine ⟨rfl, ⟨(k + 1, E), ha, hE.pass hnet hall, by show k + 1 ≤ _; omega⟩, by show to.length + 1 - (k + 1) < to.length + 1 - k; omega, ?_⟩
        exact ⟨⟨veq_d rfl, veq_d (by rw [← hO]; rfl), veq_d rfl, ⟨rfl, rfl⟩, ⟨rfl, rfl⟩, rfl, trivial⟩, ⟨⟨rfl, rfl, rfl, fun _ _ => rfl⟩, ⟨rfl, trivial⟩, ⟨rfl, rfl, rfl, fun _ _ => rfl⟩, ⟨rfl, trivial⟩, trivial⟩, rfl⟩
      · obtain ⟨e, h3⟩ := hno h2
        subst e
        have htre := hE.done hnet hall fun v hv h0 => h3 v hv h0 (hall v hv)
        refine x.le (s' := ⟨[(10, .ptr 3 0)], [(2, outC (treeL to)), (3, .box [.own 2])], 4⟩) ?_ ?_
        · refine ⟨⟨⟨rfl, rfl⟩, trivial⟩, ⟨⟨rfl, rfl, (treeL_len ha).symm, fun v hv => ?_⟩, ⟨rfl, trivial⟩, trivial⟩, rfl⟩
          show [Sx.D.int .i64 (E v)] = [Sx.D.int .i64 ((treeL to).getD v 0)]
          rw [treeL_at ha hv, htre.idom hnet hv]
        refine Sx.Go.freeze 2 ?_
        refine x.exit rfl trivial ?_
        exact ⟨.inr rfl, veq_d rfl, trivial, rfl⟩
end Go.Proofs.Ytiobpiglhbincaa

/- The answer's Tree. -/
namespace Go.Proofs.Ytiobpiglhbincaa
open Go.Sx
set_option linter.unusedVariables false
set_option linter.unusedSimpArgs false
set_option maxRecDepth 100000

/-- Is b not reached without a? -/
noncomputable def overB (to : List (List Int)) (a b : Nat) : Bool := decide ((a : Int) = (b : Int)) || !wayB to (a : Int) 0 b
theorem overB_iff {to : List (List Int)} (hto : ∀ j, ∀ k ∈ to.getD j [], 0 ≤ k) (a b : Nat) : overB to a b = true ↔ Dom to a b := by
  unfold overB
  rw [Bool.or_eq_true, decide_eq_true_eq, Bool.not_eq_true', ← Bool.not_eq_true, wayB_iff]
  constructor
  · rintro (e | h)
    · rw [show a = b by omega]; exact dom_self to b hto
    · exact h
  · exact fun h => .inr h
def allN (c : Nat → Bool) : Nat → Bool
  | 0 => true
  | k + 1 => allN c k && c k
theorem allN_iff {c : Nat → Bool} {n : Nat} : allN c n = true ↔ ∀ k, k < n → c k = true := by
  induction n with
  | zero => simp [allN]
  | succ n ih =>
    rw [allN, Bool.and_eq_true, ih]
    constructor
    · rintro ⟨h1, h2⟩ k hk
      by_cases e : k = n
      · rw [e]; exact h2
      · exact h1 k (by omega)
    · exact fun h => ⟨fun k hk => h k (by omega), h n (by omega)⟩
theorem allN_le {c : Nat → Bool} {k n : Nat} (h : k ≤ n) (hc : allN c k = false) : allN c n = false := by
  cases h2 : allN c n with
  | false => rfl
  | true =>
    rw [allN_iff] at h2
    rw [allN_iff.2 fun j hj => h2 j (by omega)] at hc
    cases hc
def condB (ov : Nat → Nat → Bool) (b a k : Nat) : Bool := (decide ((k : Int) = (b : Int)) || !ov k b) || ov k a
def firstB (ov : Nat → Nat → Bool) (b a : Nat) : Bool := !decide ((a : Int) = (b : Int)) && ov a b
def isR (ov : Nat → Nat → Bool) (n b a : Nat) : Bool := firstB ov b a && allN (condB ov b a) n
theorem isR_isB {to : List (List Int)} (hto : ∀ j, ∀ k ∈ to.getD j [], 0 ≤ k) (b a : Nat) : isR (overB to) to.length b a = isB to b a := by
  rw [Bool.eq_iff_iff, isB_iff]
  unfold isR firstB IsI
  rw [Bool.and_eq_true, Bool.and_eq_true, allN_iff, overB_iff hto, Bool.not_eq_true', decide_eq_false_iff_not]
  constructor
  · rintro ⟨⟨h1, h2⟩, h3⟩
    refine ⟨by omega, h2, fun k hk hne hd => ?_⟩
    have := h3 k hk
    unfold condB at this
    rw [Bool.or_eq_true, Bool.or_eq_true, decide_eq_true_eq, Bool.not_eq_true', overB_iff hto] at this
    rcases this with (h | h) | h
    · omega
    · rw [(overB_iff hto k b).2 hd] at h; cases h
    · exact h
  · rintro ⟨h1, h2, h3⟩
    refine ⟨⟨by omega, h2⟩, fun k hk => ?_⟩
    unfold condB
    rw [Bool.or_eq_true, Bool.or_eq_true, decide_eq_true_eq, Bool.not_eq_true', overB_iff hto]
    by_cases e : k = b
    · exact .inl (.inl (by omega))
    · cases ho : overB to k b with
      | false => exact .inl (.inr rfl)
      | true => exact .inr (h3 k hk e ((overB_iff hto k b).1 ho))
theorem lastI_congr {b c : Nat → Bool} {n : Nat} (h : ∀ k, k < n → b k = c k) : lastI b n = lastI c n := by
  induction n with
  | zero => rfl
  | succ n ih => rw [lastI, lastI, h n (by omega), ih fun k hk => h k (by omega)]
abbrev rowsBC (n : Nat) (hs : Nat → Value) (m : Nat → Nat) (f : Nat → Nat → Bool) : Ch := .rows 44 4 1 n none hs m fun v j => [.bool (f v j)]
abbrev heldBC (n k : Nat) (u : V) (hs : Nat → Value) (m : Nat → Nat) (f : Nat → Nat → Bool) : Ch := .held 44 4 1 n k u hs m fun v j => [.bool (f v j)]
def dMat (n : Nat) (f : Nat → Nat → Bool) : D := .sl 1 n fun i => [dBools n (f i)]

theorem reftree_spec (to : List (List Int)) (hf : Fit to) (hn64 : to.length ≤ 64) : Pure PG 11 [gv to] (iv (treeL to)) [] := by
  refine Proc.mk (cfg 122) tysOK [] Try.func11 rfl (by kernel_rfl) rfl rfl rfl ?_
  intro C x
  have lost : GOK to → fstB (wayB to (-1) 0) false to.length = lostN to := fun hg => by
    rw [lostN, if_pos hg]
    refine fstB_congr fun j hj => ?_
    rw [Bool.eq_iff_iff, wayB_iff, seen_iff hg hg.1]
  refine x.pure rfl trivial rfl (refright_spec to hf) ⟨veq_d rfl, trivial⟩ ?_
  refine x.pureG rfl trivial rfl (fun h => reflost_spec to (by simpa using h)) rfl ⟨veq_d rfl, trivial⟩ ?_
  refine x.cond rfl trivial (fun h => ?_) (fun h => ?_)
  · have hno : ¬ AllSeen to := fun ha => by
      obtain ⟨a, b⟩ := (lostN_iff to).1 ha
      have h : (!decide (GOK to) || decide (0 ≤ fstB (wayB to (-1) 0) false to.length)) = true := h
      rw [lost a, decide_eq_false (by omega : ¬ 0 ≤ lostN to), decide_eq_true a] at h
      cases h
    refine x.exit rfl trivial ?_
    refine ⟨.inr rfl, ?_, trivial, rfl⟩
    show (treeL to).length = 0
    rw [treeL_not hno]; rfl
  have ha : AllSeen to := (lostN_iff to).2 (by
    have h : (!decide (GOK to) || decide (0 ≤ fstB (wayB to (-1) 0) false to.length)) = false := h
    by_cases h2 : GOK to
    · rw [lost h2] at h
      by_cases h1 : 0 ≤ lostN to
      · rw [decide_eq_true h1] at h; simp at h
      · exact ⟨h2, by omega⟩
    · rw [decide_eq_false h2] at h; cases h)
  have hg := ha.1
  have hnn := ha.net.nonneg
  refine x.loop (α := { a : Nat // a ≤ to.length } × (Nat → Value)) (fun y => ⟨[(0, gv to), (3, vi (to.length : Int)), (4, .own 0), (5, vi (y.1.1 : Int))], [(0, rowsBC to.length y.2 (fun i => if i < y.1.1 then to.length else 0) (overB to))], 1⟩) (fun y => to.length - y.1.1) (⟨0, by omega⟩, fun _ => .slice none 0 0) rfl ?_ ?_ (fun y => ?_)
  · simp only [AllP, big, Int.toNat_natCast]; omega
  · exact ⟨⟨veq_d rfl, rfl, rfl, rfl, trivial⟩, ⟨⟨rfl, rfl, rfl, rfl, rfl, fun i hi => ⟨rfl, rfl, fun j hj => absurd hj (Nat.not_lt_zero _)⟩⟩, trivial⟩, rfl⟩
  obtain ⟨⟨a, ha2⟩, hs⟩ := y
  change Go C _ ⟨[(0, gv to), (3, vi (to.length : Int)), (4, .own 0), (5, vi (a : Int))], [(0, rowsBC to.length hs (fun i => if i < a then to.length else 0) (overB to))], 1⟩ _
  refine x.cond rfl trivial (fun h1 => ?_) (fun h1 => ?_)
  · have h1 : a < to.length := by have := of_decide_eq_true h1; omega
    refine x.pure rfl trivial rfl (without_spec to hg 0 (a : Int) hg.1) ⟨veq_d rfl, rfl, rfl, trivial⟩ ?_
    refine Go.forget 0 a ?_
    refine x.storeRow rfl ?_ rfl ?_ (fun val => ?_)
    · simp only [AllP, big, Int.toNat_natCast]; omega
    · exact ⟨rfl, h1⟩
    refine x.toLoop rfl trivial ?_
    refine Go.hold 0 a rfl h1 ?_
    refine x.loop (α := { b : Nat // b ≤ to.length }) (fun z => ⟨[(0, gv to), (3, vi (to.length : Int)), (4, .own 0), (5, vi (a : Int)), (6, .d (dBools to.length (wayB to (a : Int) 0))), (7, vi (z.1 : Int))], [(0, heldBC to.length a (.own 2) hs (fun i => if i < a then to.length else 0) (overB to)), (2, beenC to.length fun j => if j < z.1 then overB to a j else false)], 3⟩) (fun z => to.length - z.1) ⟨0, by omega⟩ rfl trivial ?_ (fun z => ?_)
    · refine ⟨⟨veq_d rfl, rfl, rfl, rfl, veq_d rfl, rfl, trivial⟩, ⟨⟨rfl, rfl, rfl, rfl, rfl, rfl, fun i hi hia => ⟨if_neg hia, if_neg hia, fun j hj => ?_⟩⟩, ⟨rfl, rfl, if_pos rfl, fun j hj => ?_⟩, trivial⟩, rfl⟩
      · show (if i = a then fun x => [D.bool false] else fun j => [D.bool (overB to i j)]) j = [D.bool (overB to i j)]
        rw [if_neg hia]
      · show (if a = a then fun x => [D.bool false] else fun j => [D.bool (overB to a j)]) j = [D.bool (if j < 0 then overB to a j else false)]
        rw [if_pos rfl, if_neg (by omega)]
    obtain ⟨b, hb⟩ := z
    change Go C _ ⟨[(0, gv to), (3, vi (to.length : Int)), (4, .own 0), (5, vi (a : Int)), (6, .d (dBools to.length (wayB to (a : Int) 0))), (7, vi (b : Int))], [(0, heldBC to.length a (.own 2) hs (fun i => if i < a then to.length else 0) (overB to)), (2, beenC to.length fun j => if j < b then overB to a j else false)], 3⟩ _
    refine x.cond rfl trivial (fun h2 => ?_) (fun h2 => ?_)
    · have h2 : b < to.length := by have := of_decide_eq_true h2; omega
      refine x.plan [0, 1, 4, 5, 6] [2, 3, 7, 8, 9, 10, 11, 12, 13, 14] [15, 16] rfl trivial mixedP (by kernel_rfl) Ret.noPanic ?_
      refine x.qdone rfl ?_ ?_
      · simp only [AllP]; omega
      refine x.back rfl ?_ ⟨⟨b + 1, by omega⟩, by show to.length - (b + 1) < to.length - b; omega, ⟨veq_d rfl, rfl, rfl, rfl, veq_d rfl, rfl, trivial⟩, ⟨⟨rfl, rfl, rfl, rfl, rfl, rfl, fun i hi hia => ⟨rfl, rfl, fun j hj => rfl⟩⟩, ⟨rfl, rfl, rfl, fun j hj => ?_⟩, trivial⟩, rfl⟩
      · simp only [AllP, List.length, inI64]; omega
      · rw [put2_bool]
        show [D.bool (if j = b then overB to a b else if j < b then overB to a j else false)] = [D.bool (if j < b + 1 then overB to a j else false)]
        by_cases e : j = b
        · subst e; rw [if_pos rfl, if_pos (by omega)]
        · rw [if_neg e]
          by_cases e2 : j < b
          · rw [if_pos e2, if_pos (by omega)]
          · rw [if_neg e2, if_neg (by omega)]
    · have h2 : b = to.length := by have := of_decide_eq_false h2; omega
      subst h2
      refine Go.letgo 0 rfl (fun val => ?_)
      refine x.back rfl (show inI64 _ by unfold inI64; omega) ⟨(⟨a + 1, by omega⟩, _), by show to.length - (a + 1) < to.length - a; omega, ⟨veq_d rfl, rfl, rfl, rfl, trivial⟩, ⟨⟨rfl, rfl, rfl, rfl, rfl, fun i hi => ⟨rfl, ?_, fun j hj => ?_⟩⟩, trivial⟩, rfl⟩
      · show (if i = a then to.length else if i < a then to.length else 0) = if i < a + 1 then to.length else 0
        by_cases e : i = a
        · rw [if_pos e, if_pos (by omega)]
        · rw [if_neg e]
          by_cases e2 : i < a
          · rw [if_pos e2, if_pos (by omega)]
          · rw [if_neg e2, if_neg (by omega)]
      · have hj : j < (if i = a then to.length else if i < a then to.length else 0) := hj
        show (if i = a then fun j => [D.bool (if j < to.length then overB to a j else false)] else fun j => [D.bool (overB to i j)]) j = [D.bool (overB to i j)]
        by_cases e : i = a
        · subst e
          rw [if_pos rfl] at hj ⊢
          rw [if_pos hj]
        · rw [if_neg e]
  · have h1 : a = to.length := by have := of_decide_eq_false h1; omega
    subst h1
    refine Go.close 0 ?_
    refine x.le (s' := ⟨[(3, vi (to.length : Int)), (4, .own 0)], [(0, .vec 44 1 to.length fun i => [dBools to.length (overB to i)])], 1⟩) ?_ ?_
    · refine ⟨⟨rfl, rfl, trivial⟩, ⟨⟨rfl, rfl, rfl, fun i hi => ?_⟩, trivial⟩, rfl⟩
      show [D.sl 1 (if i < to.length then to.length else 0) fun j => [D.bool (overB to i j)]] = [D.sl 1 to.length fun j => [D.bool (overB to i j)]]
      rw [if_pos hi]
    refine Sx.Go.freeze 0 ?_
    obtain ⟨ov, hov⟩ : ∃ ov, overB to = ov := ⟨_, rfl⟩
    rw [hov]
    refine x.loop (α := { b : Nat // b ≤ to.length }) (fun y => ⟨[(3, vi (to.length : Int)), (4, .d (dMat to.length ov)), (8, .own 1), (9, vi (y.1 : Int))], [(1, intC to.length fun v => if v < y.1 then lastI (isR ov to.length v) to.length else 0)], 2⟩) (fun y => to.length - y.1) ⟨0, by omega⟩ rfl ?_ ?_ (fun y => ?_)
    · simp only [AllP, big, Int.toNat_natCast]; omega
    · exact ⟨⟨rfl, veq_d rfl, rfl, rfl, trivial⟩, ⟨⟨rfl, rfl, rfl, fun i hi => rfl⟩, trivial⟩, rfl⟩
    obtain ⟨b, hb⟩ := y
    change Go C _ ⟨[(3, vi (to.length : Int)), (4, .d (dMat to.length ov)), (8, .own 1), (9, vi (b : Int))], [(1, intC to.length fun v => if v < b then lastI (isR ov to.length v) to.length else 0)], 2⟩ _
    refine x.cond rfl trivial (fun h2 => ?_) (fun h2 => ?_)
    · have h2 : b < to.length := by have := of_decide_eq_true h2; omega
      refine x.loop (α := { a : Nat // a ≤ to.length }) (fun y => ⟨[(3, vi (to.length : Int)), (4, .d (dMat to.length ov)), (8, .own 1), (9, vi (b : Int)), (10, vi (y.1 : Int))], [(1, intC to.length fun v => if v < b then lastI (isR ov to.length v) to.length else if v = b then lastI (isR ov to.length b) y.1 else 0)], 2⟩) (fun y => to.length - y.1) ⟨0, by omega⟩ rfl ?_ ?_ (fun y => ?_)
      · simp only [AllP, List.length]; omega
      · refine ⟨⟨rfl, veq_d rfl, rfl, rfl, rfl, trivial⟩, ⟨⟨rfl, rfl, rfl, fun i hi => ?_⟩, trivial⟩, rfl⟩
        rw [put2_int]
        show [D.int .i64 (if i = b then -1 else if i < b then lastI (isR ov to.length i) to.length else 0)] = [D.int .i64 (if i < b then lastI (isR ov to.length i) to.length else if i = b then -1 else 0)]
        by_cases e : i = b
        · rw [if_pos e, if_neg (by omega), if_pos e]
        · rw [if_neg e, if_neg e]
      obtain ⟨a, ha3⟩ := y
      change Go C _ ⟨[(3, vi (to.length : Int)), (4, .d (dMat to.length ov)), (8, .own 1), (9, vi (b : Int)), (10, vi (a : Int))], [(1, intC to.length fun v => if v < b then lastI (isR ov to.length v) to.length else if v = b then lastI (isR ov to.length b) a else 0)], 2⟩ _
      refine x.cond rfl trivial (fun h3 => ?_) (fun h3 => ?_)
      · have h3 : a < to.length := by have := of_decide_eq_true h3; omega
        refine x.loop (α := { k : Nat // k ≤ to.length }) (fun y => ⟨[(3, vi (to.length : Int)), (4, .d (dMat to.length ov)), (8, .own 1), (9, vi (b : Int)), (10, vi (a : Int)), (11, vb (firstB ov b a && allN (condB ov b a) y.1)), (12, vi (y.1 : Int))], [(1, intC to.length fun v => if v < b then lastI (isR ov to.length v) to.length else if v = b then lastI (isR ov to.length b) a else 0)], 2⟩) (fun y => to.length - y.1) ⟨0, by omega⟩ rfl ?_ ?_ (fun y => ?_)
        · simp only [AllP]; omega
        · refine ⟨⟨rfl, veq_d rfl, rfl, rfl, rfl, ?_, rfl, trivial⟩, ⟨⟨rfl, rfl, rfl, fun i hi => rfl⟩, trivial⟩, rfl⟩
          show firstB ov b a = (firstB ov b a && true)
          rw [Bool.and_true]
        obtain ⟨k, hk⟩ := y
        change Go C _ ⟨[(3, vi (to.length : Int)), (4, .d (dMat to.length ov)), (8, .own 1), (9, vi (b : Int)), (10, vi (a : Int)), (11, vb (firstB ov b a && allN (condB ov b a) k)), (12, vi (k : Int))], [(1, intC to.length fun v => if v < b then lastI (isR ov to.length v) to.length else if v = b then lastI (isR ov to.length b) a else 0)], 2⟩ _
        refine x.cond rfl trivial (fun h4 => ?_) (fun h4 => ?_)
        · have h4 : (decide ((k : Int) < (to.length : Int)) && (firstB ov b a && allN (condB ov b a) k)) = true := h4
          rw [Bool.and_eq_true] at h4
          obtain ⟨h4, h5⟩ := h4
          have h4 : k < to.length := by have := of_decide_eq_true h4; omega
          refine x.back rfl ?_ ⟨⟨k + 1, by omega⟩, by show to.length - (k + 1) < to.length - k; omega, ⟨rfl, veq_d rfl, rfl, rfl, rfl, ?_, rfl, trivial⟩, ⟨⟨rfl, rfl, rfl, fun i hi => rfl⟩, trivial⟩, rfl⟩
          · simp only [AllP, inI64]; omega
          · show condB ov b a k = (firstB ov b a && (allN (condB ov b a) k && condB ov b a k))
            rw [← Bool.and_assoc, h5, Bool.true_and]
        · have h4 : (decide ((k : Int) < (to.length : Int)) && (firstB ov b a && allN (condB ov b a) k)) = false := h4
          have h5 : (firstB ov b a && allN (condB ov b a) k) = isR ov to.length b a := by
            unfold isR
            by_cases e : k < to.length
            · rw [decide_eq_true (by omega : (k : Int) < (to.length : Int)), Bool.true_and] at h4
              rw [h4]
              cases h6 : firstB ov b a with
              | false => rfl
              | true =>
                rw [h6, Bool.true_and] at h4
                rw [allN_le hk h4]; rfl
            · rw [show k = to.length by omega]
          refine x.cond rfl trivial (fun h6 => ?_) (fun h6 => ?_)
          · have h6 : isR ov to.length b a = true := h5 ▸ h6
            refine x.back rfl ?_ ⟨⟨a + 1, by omega⟩, by show to.length - (a + 1) < to.length - a; omega, ⟨rfl, veq_d rfl, rfl, rfl, rfl, trivial⟩, ⟨⟨rfl, rfl, rfl, fun i hi => ?_⟩, trivial⟩, rfl⟩
            · simp only [AllP, List.length, inI64]; omega
            · rw [put2_int]
              show [D.int .i64 (if i = b then (a : Int) else if i < b then lastI (isR ov to.length i) to.length else if i = b then lastI (isR ov to.length b) a else 0)] = [D.int .i64 (if i < b then lastI (isR ov to.length i) to.length else if i = b then (if isR ov to.length b a then (a : Int) else lastI (isR ov to.length b) a) else 0)]
              rw [h6]
              by_cases e : i = b
              · rw [if_pos e, if_neg (by omega), if_pos e]; rfl
              · rw [if_neg e, if_neg e, if_neg e]
          · have h6 : isR ov to.length b a = false := h5 ▸ h6
            refine x.back rfl (show inI64 _ by unfold inI64; omega) ⟨⟨a + 1, by omega⟩, by show to.length - (a + 1) < to.length - a; omega, ⟨rfl, veq_d rfl, rfl, rfl, rfl, trivial⟩, ⟨⟨rfl, rfl, rfl, fun i hi => ?_⟩, trivial⟩, rfl⟩
            show [D.int .i64 (if i < b then lastI (isR ov to.length i) to.length else if i = b then lastI (isR ov to.length b) a else 0)] = [D.int .i64 (if i < b then lastI (isR ov to.length i) to.length else if i = b then (if isR ov to.length b a then (a : Int) else lastI (isR ov to.length b) a) else 0)]
            rw [h6]; rfl
      · have h3 : a = to.length := by have := of_decide_eq_false h3; omega
        subst h3
        refine x.back rfl (show inI64 _ by unfold inI64; omega) ⟨⟨b + 1, by omega⟩, by show to.length - (b + 1) < to.length - b; omega, ⟨rfl, veq_d rfl, rfl, rfl, trivial⟩, ⟨⟨rfl, rfl, rfl, fun i hi => ?_⟩, trivial⟩, rfl⟩
        show [D.int .i64 (if i < b then lastI (isR ov to.length i) to.length else if i = b then lastI (isR ov to.length b) to.length else 0)] = [D.int .i64 (if i < b + 1 then lastI (isR ov to.length i) to.length else 0)]
        by_cases e : i = b
        · rw [if_neg (by omega), if_pos e, if_pos (by omega), e]
        · by_cases e2 : i < b
          · rw [if_pos e2, if_pos (by omega)]
          · rw [if_neg e2, if_neg e, if_neg (by omega)]
    · have h2 : b = to.length := by have := of_decide_eq_false h2; omega
      subst h2
      refine x.le (s' := ⟨[(8, .own 1)], [(1, outC (treeL to))], 2⟩) ?_ ?_
      · refine ⟨⟨rfl, trivial⟩, ⟨⟨rfl, rfl, (treeL_len ha).symm, fun v hv => ?_⟩, trivial⟩, rfl⟩
        show [D.int .i64 (if v < to.length then lastI (isR ov to.length v) to.length else 0)] = [D.int .i64 ((treeL to).getD v 0)]
        rw [if_pos hv, treeL_at ha hv, idomF, ← hov, lastI_congr fun a _ => isR_isB hnn v a]
      refine Sx.Go.freeze 1 ?_
      refine x.exit rfl trivial ?_
      exact ⟨.inr rfl, veq_d rfl, trivial, rfl⟩
end Go.Proofs.Ytiobpiglhbincaa

/- There is a tree of dominators; chains of an array that is a tree. -/
namespace Go.Proofs.Ytiobpiglhbincaa
open Go.Sx
set_option linter.unusedVariables false
set_option linter.unusedSimpArgs false
set_option maxRecDepth 100000

/-! ### there is one -/
theorem nearOf_ex {n : Nat} {P : Nat → Nat} {D : Nat → Int} (hA : Arr n P D) {row : List Int} (hr : ∀ i, i < row.length → 0 ≤ row.getD i 0 ∧ row.getD i 0 < n) : ∀ j, j ≤ row.length → ∃ m, NearOf D row j m := fun j => by
  induction j with
  | zero => exact fun _ => ⟨-1, NearOf.zero D row⟩
  | succ j ih =>
    intro hj
    obtain ⟨m, hm⟩ := ih (by omega)
    have hrj := hr j (by omega)
    by_cases hs : SetD D (row.getD j 0).toNat
    · by_cases h0 : m < 0
      · exact ⟨_, hm.one h0 hrj.1 hs⟩
      · obtain ⟨c1, c2⟩ := hm.lt hA (fun i hi => hr i (by omega)) (by omega)
        obtain ⟨q, hq⟩ := isMeet_ex hA _ m.toNat (row.getD j 0).toNat (Nat.le_refl _) (by omega) (by omega) c2 hs
        exact ⟨_, hm.meet (by omega) hs hq⟩
    · exact ⟨m, hm.skip hs⟩
theorem stg_ex {to : List (List Int)} {P : Nat → Nat} (hn : Net to P) (k : Nat) : ∀ p D, Stg to P k p D → ∀ q, ∃ E, Stg to P k (p + q) E := fun p D h q => by
  induction q with
  | zero => exact ⟨D, h⟩
  | succ q ih =>
    obtain ⟨E, hE⟩ := ih
    by_cases hv : ∃ v, v < to.length ∧ v ≠ 0 ∧ P v = p + q
    · obtain ⟨v, hv, h0, hp⟩ := hv
      have hrow : ∀ i, i < ((backL to).getD v []).length → 0 ≤ ((backL to).getD v []).getD i 0 ∧ ((backL to).getD v []).getD i 0 < to.length := fun i hi => by
        have := (gok_row (backL_gok hn.hg) (i := v) (by rw [backL_len]; exact hv)).1 _ (getD_in hi)
        rw [backL_len] at this; exact this
      obtain ⟨m, hm⟩ := nearOf_ex (hE.arr hn) hrow _ (Nat.le_refl _)
      obtain ⟨h1, h2⟩ := hm.toMeet hn hE hv h0 hp
      exact ⟨_, hE.next_node hn hv h0 hp h2⟩
    · have hno : ∀ v, v < to.length → P v < p + (q + 1) → P v < p + q ∨ v = 0 := fun v hvl hlt => by
        by_cases h0 : v = 0
        · exact .inr h0
        · exact .inl (by have : P v ≠ p + q := fun e => hv ⟨v, hvl, h0, e⟩; omega)
      refine ⟨E, hE.d0, hE.rng, hE.falls, hE.next, fun v hvl hk => ?_, hE.way, hE.dom, fun v hvl x hc r hr hw => ?_⟩
      · rcases hk with hk | hk
        · exact hE.set v hvl (.inl hk)
        · rcases hno v hvl hk with h1 | h1
          · exact hE.set v hvl (.inr h1)
          · exact .inl h1
      · rcases hr with hr | ⟨hr, hk⟩
        · exact hE.q v hvl x hc r (.inl hr) hw
        · rcases hno v hvl hk with h1 | h1
          · exact hE.q v hvl x hc r (.inr ⟨hr, h1⟩) hw
          · subst h1
            have := hc.zero hE.d0
            subst this
            exact dom_self to 0 hn.nonneg hw.way
theorem tre_ex {to : List (List Int)} (h : AllSeen to) : ∃ D, Tre to (plc to) D := by
  have hn := h.net
  have bound : ∀ v, v < to.length → plc to v < 1 + to.length := fun v hv => by
    obtain ⟨j, h1, h2, _⟩ := order_find (order_of h.1) (h.2 v hv)
    have : (orderL to).length ≤ to.length := by
      rw [show orderL to = (post to).reverse by rw [orderL, if_pos h.1], List.length_reverse]; exact post_len h.1
    unfold plc; rw [h2, Int.toNat_natCast]; omega
  have pass : ∀ k, ∃ D, Stg to (plc to) k 1 D := fun k => by
    induction k with
    | zero => exact ⟨_, Stg.start hn⟩
    | succ k ih =>
      obtain ⟨D, hD⟩ := ih
      obtain ⟨E, hE⟩ := stg_ex hn k 1 D hD to.length
      exact ⟨E, hE.pass hn bound⟩
  obtain ⟨D, hD⟩ := pass (to.length + 1)
  refine ⟨D, hD.d0, fun v hv h0 => ?_, hD.falls, fun v hv x => hD.exact hn (by omega) hv x⟩
  rcases hD.set v hv (.inl (by omega)) with e | e
  · exact absurd e h0
  · exact ⟨e, (hD.rng v e).2⟩

/-! ### an array that is a tree -/
/-- Does a node come to the first one in at most f steps? -/
def lF (T : List Int) : Nat → Nat → Bool
  | 0, i => decide (i = 0)
  | f + 1, i => if i = 0 then true else if T.getD i 0 < 0 ∨ T.getD i 0 ≥ T.length then false else lF T f (T.getD i 0).toNat
def TreeOK (T : List Int) : Prop := 1 ≤ T.length ∧ T.length ≤ 256 ∧ T.getD 0 0 = -1 ∧ ∀ i, i < T.length → lF T T.length i = true
instance (T : List Int) : Decidable (TreeOK T) := inferInstanceAs (Decidable (_ ∧ _ ∧ _ ∧ _))
/-- A chain, of at most f nodes. -/
def chn (T : List Int) : Nat → Int → List Int
  | 0, _ => []
  | f + 1, a => if a < 0 then [] else a :: chn T f (T.getD a.toNat 0)
def chainL (T : List Int) (a : Int) : List Int := if TreeOK T ∧ 0 ≤ a ∧ a < T.length then chn T (T.length + 1) a else []
abbrev dT (T : List Int) : Nat → Int := fun v => T.getD v 0

theorem chn_mem {T : List Int} {f : Nat} {a x : Int} (h : x ∈ chn T f a) : 0 ≤ x := by
  induction f generalizing a with
  | zero => cases h
  | succ f ih =>
    rw [chn] at h
    split at h
    · cases h
    · rcases List.mem_cons.1 h with e | h
      · omega
      · exact ih h
theorem lF_zero (T : List Int) : ∀ f, lF T f 0 = true
  | 0 => rfl
  | f + 1 => rfl
/-- Where a node comes to the first one in f steps, chains of more than f nodes are whole. -/
theorem lF_chn {T : List Int} (h0 : T.getD 0 0 = -1) : ∀ {f g a : Nat}, lF T f a = true → f < g → ∀ x : Nat, (x : Int) ∈ chn T g a ↔ Chn (dT T) a x
  | f, 0, a, _, hg, x => by omega
  | 0, g + 1, a, hl, _, x => by
    have ha : a = 0 := by simpa [lF] using hl
    subst ha
    rw [chn, if_neg (by omega), show ((0 : Nat) : Int).toNat = 0 from rfl, h0]
    constructor
    · intro h
      rcases List.mem_cons.1 h with e | h
      · rw [show x = 0 by omega]; exact .here 0
      · cases g with
        | zero => cases h
        | succ g => rw [chn, if_pos (by omega)] at h; cases h
    · intro h
      rw [h.zero h0]; simp
  | f + 1, g + 1, a, hl, hg, x => by
    by_cases ha : a = 0
    · subst ha
      rw [chn, if_neg (by omega), show ((0 : Nat) : Int).toNat = 0 from rfl, h0]
      constructor
      · intro h
        rcases List.mem_cons.1 h with e | h
        · rw [show x = 0 by omega]; exact .here 0
        · cases g with
          | zero => cases h
          | succ g => rw [chn, if_pos (by omega)] at h; cases h
      · intro h
        rw [h.zero h0]; simp
    · rw [lF, if_neg ha] at hl
      split at hl
      · cases hl
      · rename_i hr
        have ih := lF_chn h0 hl (by omega : f < g) x
        rw [chn, if_neg (by omega), Int.toNat_natCast, List.mem_cons]
        rw [show (((T.getD a 0).toNat : Nat) : Int) = T.getD a 0 by omega] at ih
        rw [ih]
        constructor
        · rintro (e | h)
          · rw [show x = a by omega]; exact .here a
          · exact .up (by show 0 ≤ T.getD a 0; omega) h
        · intro h
          rcases h.cases' with e | ⟨_, h⟩
          · exact .inl (by omega)
          · exact .inr h
theorem mem_chain {T : List Int} (h : TreeOK T) {a x : Nat} (ha : a < T.length) : (x : Int) ∈ chainL T a ↔ Chn (dT T) a x := by
  rw [chainL, if_pos ⟨h, by omega, by omega⟩]
  exact lF_chn h.2.2.1 (h.2.2.2 a ha) (by omega) x
/-- How far a node is from the first one. -/
theorem lF_falls {T : List Int} (h : TreeOK T) : ∃ P : Nat → Nat, ∀ v, v < T.length → 0 ≤ T.getD v 0 → T.getD v 0 < T.length ∧ P (T.getD v 0).toNat < P v := by
  let least : Nat → Nat := fun v => ((List.range (T.length + 1)).find? fun f => lF T f v).getD 0
  have hl : ∀ v, v < T.length → lF T (least v) v = true ∧ ∀ f, f < least v → lF T f v = false := fun v hv => by
    have hx := h.2.2.2 v hv
    show lF T (((List.range (T.length + 1)).find? fun f => lF T f v).getD 0) v = true ∧ _
    cases hf : (List.range (T.length + 1)).find? fun f => lF T f v with
    | none =>
      rw [List.find?_eq_none] at hf
      have := hf T.length (by simp)
      rw [hx] at this; exact absurd rfl this
    | some f =>
      refine ⟨by simpa using List.find?_some hf, fun g hg => ?_⟩
      have hg : g < f := by
        have : least v = f := by show ((List.range (T.length + 1)).find? fun f => lF T f v).getD 0 = f; rw [hf]; rfl
        omega
      rw [List.find?_range_eq_some] at hf
      simpa using hf.2.2 g hg
  refine ⟨least, fun v hv h0 => ?_⟩
  have hv0 : v ≠ 0 := fun e => by rw [e, h.2.2.1] at h0; omega
  obtain ⟨h1, h2⟩ := hl v hv
  cases hf : least v with
  | zero => rw [hf] at h1; exact absurd (by simpa [lF] using h1) hv0
  | succ f =>
    rw [hf, lF, if_neg hv0] at h1
    split at h1
    · cases h1
    · rename_i hr
      refine ⟨by omega, ?_⟩
      rcases Nat.lt_or_ge (least (T.getD v 0).toNat) (f + 1) with h3 | h3
      · exact h3
      · have := (hl (T.getD v 0).toNat (by omega)).2 f (by omega)
        rw [this] at h1; cases h1
/-- The chain of a node of a tree: places fall, nodes are of the tree. -/
theorem TreeOK.arr {T : List Int} (h : TreeOK T) : ∃ P : Nat → Nat, (∀ v, v < T.length → 0 ≤ dT T v → P (dT T v).toNat < P v) ∧ ∀ v x, v < T.length → Chn (dT T) v x → x < T.length ∧ P x ≤ P v ∧ (P x = P v → x = v) := by
  obtain ⟨P, hP⟩ := lF_falls h
  refine ⟨P, fun v hv h0 => (hP v hv h0).2, fun v x hv hc => ?_⟩
  induction hc with
  | here => exact ⟨hv, Nat.le_refl _, fun _ => rfl⟩
  | @up v x h0 _ ih =>
    obtain ⟨h1, h2⟩ := hP v hv h0
    have h1 : dT T v < T.length := h1
    have h2 : P (dT T v).toNat < P v := h2
    obtain ⟨h3, h4, h5⟩ := ih (by omega)
    exact ⟨h3, by omega, fun e => by omega⟩
/-- Of two nodes on a chain one is on the other's. -/
theorem Chn.line {D : Nat → Int} {c a b : Nat} (h1 : Chn D c a) (h2 : Chn D c b) : Chn D a b ∨ Chn D b a := by
  induction h1 with
  | here => exact .inl h2
  | up hv h ih =>
    rcases h2.cases' with e | ⟨_, h2⟩
    · subst e; exact .inr (.up hv h)
    · exact ih h2
theorem TreeOK.anti {T : List Int} (h : TreeOK T) {a b : Nat} (ha : a < T.length) (hb : b < T.length) (h1 : Chn (dT T) a b) (h2 : Chn (dT T) b a) : a = b := by
  obtain ⟨P, _, hP⟩ := h.arr
  have c1 := hP a b ha h1
  have c2 := hP b a hb h2
  exact (c1.2.2 (by omega)).symm
theorem TreeOK.root {T : List Int} (h : TreeOK T) {a : Nat} (ha : a < T.length) : Chn (dT T) a 0 := by
  have key : ∀ f a, lF T f a = true → Chn (dT T) a 0 := fun f => by
    induction f with
    | zero => intro a hl; rw [show a = 0 by simpa [lF] using hl]; exact .here 0
    | succ f ih =>
      intro a hl
      by_cases e : a = 0
      · rw [e]; exact .here 0
      · rw [lF, if_neg e] at hl
        split at hl
        · cases hl
        · exact .up (by show 0 ≤ T.getD a 0; omega) (ih _ hl)
  exact key _ a (h.2.2.2 a ha)

/-! ### the tree of dominators is one -/
theorem treeL_dom {to : List (List Int)} (h : AllSeen to) : TreeOK (treeL to) ∧ ∀ v x, v < to.length → (Chn (dT (treeL to)) v x ↔ Dom to x v) := by
  obtain ⟨D, hD⟩ := tre_ex h
  have hn := h.net
  have hlen := treeL_len h
  have at' : ∀ v, v < to.length → (treeL to).getD v 0 = D v := fun v hv => by rw [treeL_at h hv, hD.idom hn hv]
  have bound : ∀ v, v < to.length → plc to v < to.length := fun v hv => by
    obtain ⟨j, h1, h2, _⟩ := order_find (order_of h.1) (h.2 v hv)
    have : (orderL to).length ≤ to.length := by
      rw [show orderL to = (post to).reverse by rw [orderL, if_pos h.1], List.length_reverse]; exact post_len h.1
    unfold plc; rw [h2, Int.toNat_natCast]; omega
  have lead : ∀ f v, v < to.length → plc to v ≤ f → lF (treeL to) f v = true := fun f => by
    induction f with
    | zero =>
      intro v hv hp
      have := hn.zero_of hv (by omega)
      subst this; exact lF_zero _ _
    | succ f ih =>
      intro v hv hp
      by_cases e : v = 0
      · subst e; exact lF_zero _ _
      · obtain ⟨r1, r2⟩ := hD.rng v hv e
        have := hD.falls v r1
        rw [lF, if_neg e, at' v hv, if_neg (by rw [hlen]; omega)]
        exact ih _ (by omega) (by omega)
  have same : ∀ v x, v < to.length → (Chn (dT (treeL to)) v x ↔ Chn D v x) := fun v x hv => by
    constructor
    · intro hc
      induction hc with
      | here => exact .here _
      | @up v x h0 _ ih =>
        have h0 : 0 ≤ (treeL to).getD v 0 := h0
        have ih : (treeL to).getD v 0 < to.length → Chn D ((treeL to).getD v 0).toNat x := fun e => ih (by show ((treeL to).getD v 0).toNat < _; omega)
        rw [at' v hv] at h0 ih
        have hv0 : v ≠ 0 := fun e => by rw [e, hD.d0] at h0; omega
        exact .up h0 (ih (hD.rng v hv hv0).2)
    · intro hc
      induction hc with
      | here => exact .here _
      | @up v x h0 _ ih =>
        have hv0 : v ≠ 0 := fun e => by rw [e, hD.d0] at h0; omega
        have ih := ih (by have := (hD.rng v hv hv0).2; omega)
        refine .up (by show 0 ≤ (treeL to).getD v 0; rw [at' v hv]; exact h0) ?_
        show Chn _ ((treeL to).getD v 0).toNat x
        rw [at' v hv]; exact ih
  refine ⟨⟨by rw [hlen]; exact h.1.1, by rw [hlen]; exact h.1.2.1, by rw [at' 0 h.1.1, hD.d0], fun i hi => ?_⟩, fun v x hv => (same v x hv).trans (hD.dom v hv x)⟩
  rw [hlen] at hi ⊢
  exact lead _ i hi (by have := bound i hi; omega)
end Go.Proofs.Ytiobpiglhbincaa

/- The walks of dom.Chain, Dominates, Near, and of the answers. -/
namespace Go.Proofs.Ytiobpiglhbincaa
open Go.Sx
set_option linter.unusedVariables false
set_option linter.unusedSimpArgs false
set_option maxRecDepth 100000

/-! ### is a number in a list? -/
def fI (l : List Int) (v : Int) : Int := fstB (fun j => decide (v = l.getD j 0)) true l.length
theorem indexI_spec (l : List Int) (v : Int) (hl : l.length ≤ 9223372036854775807) : Pure PG 39 [iv l, vi v] (vi (fI l v)) [] := by
  refine Proc.mk (cfg 19) tysOK [] Try.func39 rfl (by kernel_rfl) rfl rfl rfl ?_
  intro C x
  refine x.loop (α := { k : Nat // k ≤ l.length ∧ ∀ j, j < k → decide (v = l.getD j 0) ≠ true }) (fun y => ⟨[(0, iv l), (1, vi v), (7, vi (l.length : Int)), (8, vi (y.1 : Int))], [], 0⟩) (fun y => l.length - y.1) ⟨0, by omega, fun j hj => by omega⟩ rfl trivial ⟨⟨veq_d rfl, rfl, rfl, rfl, trivial⟩, trivial, rfl⟩ (fun y => ?_)
  obtain ⟨k, hk, hno⟩ := y
  change Go C _ ⟨[(0, iv l), (1, vi v), (7, vi (l.length : Int)), (8, vi (k : Int))], [], 0⟩ _
  refine x.cond rfl trivial (fun h1 => ?_) (fun h1 => ?_)
  · have h1 : k < l.length := by have := of_decide_eq_true h1; omega
    refine x.cond rfl (by simp only [AllP]; omega) (fun h2 => ?_) (fun h2 => ?_)
    · have h2 : decide (v = l.getD k 0) = true := h2
      refine x.exit rfl trivial ?_
      refine ⟨.inr rfl, ?_, trivial, rfl⟩
      show (k : Int) = fI l v
      exact (fstB_found (b := fun j => decide (v = l.getD j 0)) h1 h2 hno).symm
    · have h2 : decide (v = l.getD k 0) = false := h2
      refine x.back rfl (show inI64 _ by unfold inI64; omega) ⟨⟨k + 1, by omega, fun j hj => ?_⟩, by show l.length - (k + 1) < l.length - k; omega, ⟨veq_d rfl, rfl, rfl, rfl, trivial⟩, trivial, rfl⟩
      by_cases e : j = k
      · rw [e, h2]; simp
      · exact hno j (by omega)
  · have h1 : k = l.length := by have := of_decide_eq_false h1; omega
    refine x.exit rfl trivial ?_
    refine ⟨.inr rfl, ?_, trivial, rfl⟩
    show (-1 : Int) = fI l v
    rw [fI, fstB_none fun j hj => hno j (by omega)]
theorem fI_iff {l : List Int} {v : Int} : decide (0 ≤ fI l v) = l.contains v := by
  rw [Bool.eq_iff_iff, decide_eq_true_eq, List.contains_iff_mem]
  constructor
  · intro h
    unfold fI fstB at h
    split at h
    · rename_i j hj
      rw [List.find?_range_eq_some] at hj
      have e : v = l.getD j 0 := by simpa using hj.1
      rw [e]; exact getD_in (by simpa using hj.2.1)
    · omega
  · intro h
    unfold fI fstB
    split
    · omega
    · rename_i hno
      rw [List.find?_eq_none] at hno
      obtain ⟨i, hi, e⟩ := List.getElem_of_mem h
      rw [getD_at hi] at e
      have := hno i (by simpa using hi)
      exact absurd (by show (decide (v = l.getD i 0) == true) = true; rw [e]; simp) this
theorem contains_spec (l : List Int) (v : Int) (hl : l.length ≤ 9223372036854775807) : Pure PG 31 [iv l, vi v] (vb (l.contains v)) [] := by
  refine Proc.mk (cfg 9) tysOK [] Try.func31 rfl (by kernel_rfl) rfl rfl rfl ?_
  intro C x
  refine x.pure rfl trivial rfl (indexI_spec l v hl) ⟨veq_d rfl, rfl, trivial⟩ ?_
  refine x.exit rfl trivial ?_
  exact ⟨.inr rfl, fI_iff, trivial, rfl⟩
theorem in_spec (l : List Int) (v : Int) (hl : l.length ≤ 9223372036854775807) : Pure PG 22 [iv l, vi v] (vb (l.contains v)) [] := by
  refine Proc.mk (cfg 18) tysOK [] Try.func22 rfl (by kernel_rfl) rfl rfl rfl ?_
  intro C x
  refine x.loop (α := { k : Nat // k ≤ l.length ∧ ∀ j, j < k → l.getD j 0 ≠ v }) (fun y => ⟨[(0, iv l), (1, vi v), (5, vi (y.1 : Int))], [], 0⟩) (fun y => l.length - y.1) ⟨0, by omega, fun j hj => by omega⟩ rfl trivial ⟨⟨veq_d rfl, rfl, rfl, trivial⟩, trivial, rfl⟩ (fun y => ?_)
  obtain ⟨k, hk, hno⟩ := y
  change Go C _ ⟨[(0, iv l), (1, vi v), (5, vi (k : Int))], [], 0⟩ _
  refine x.cond rfl trivial (fun h1 => ?_) (fun h1 => ?_)
  · have h1 : k < l.length := by have := of_decide_eq_true h1; omega
    refine x.cond rfl (by simp only [AllP]; omega) (fun h2 => ?_) (fun h2 => ?_)
    · have h2 : l.getD k 0 = v := of_decide_eq_true h2
      refine x.exit rfl trivial ?_
      refine ⟨.inr rfl, ?_, trivial, rfl⟩
      show true = l.contains v
      rw [← h2]; exact (List.contains_iff_mem.2 (getD_in h1)).symm
    · have h2 : l.getD k 0 ≠ v := of_decide_eq_false h2
      refine x.back rfl (show inI64 _ by unfold inI64; omega) ⟨⟨k + 1, by omega, fun j hj => ?_⟩, by show l.length - (k + 1) < l.length - k; omega, ⟨veq_d rfl, rfl, rfl, trivial⟩, trivial, rfl⟩
      by_cases e : j = k
      · rw [e]; exact h2
      · exact hno j (by omega)
  · have h1 : k = l.length := by have := of_decide_eq_false h1; omega
    refine x.exit rfl trivial ?_
    refine ⟨.inr rfl, ?_, trivial, rfl⟩
    show false = l.contains v
    symm
    rw [← Bool.not_eq_true, List.contains_iff_mem, mem_idx]
    rintro ⟨i, hi, e⟩
    exact hno i (by omega) e

/-! ### does a node come to the first one? -/
theorem lF_stop {T : List Int} {f i : Nat} (hi : i ≠ 0) (h : T.getD i 0 < 0 ∨ T.getD i 0 ≥ T.length) : lF T (f + 1) i = false := by rw [lF, if_neg hi, if_pos h]
theorem lF_go {T : List Int} {f i : Nat} (hi : i ≠ 0) (h : ¬ (T.getD i 0 < 0 ∨ T.getD i 0 ≥ T.length)) : lF T (f + 1) i = lF T f (T.getD i 0).toNat := by rw [lF, if_neg hi, if_neg h]
theorem leads11_spec (T : List Int) (i : Nat) (h1 : 1 ≤ T.length) (h2 : T.length ≤ 256) (hi : i < T.length) : Pure PG 32 [iv T, vi (i : Int)] (vb (lF T T.length i && decide (T.getD 0 0 = -1))) [] := by
  refine Proc.mk (cfg 38) tysOK [] Try.func32 rfl (by kernel_rfl) rfl rfl rfl ?_
  intro C x
  refine x.loop (α := { y : Nat × Nat // y.1 ≤ T.length ∧ y.2 < T.length ∧ lF T (T.length - y.1) y.2 = lF T T.length i }) (fun y => ⟨[(0, iv T), (1, vi (y.1.2 : Int)), (5, vi (y.1.1 : Int))], [], 0⟩) (fun y => T.length - y.1.1) ⟨(0, i), by omega, hi, rfl⟩ rfl trivial ⟨⟨veq_d rfl, rfl, rfl, trivial⟩, trivial, rfl⟩ (fun y => ?_)
  obtain ⟨⟨k, j⟩, hk, hj, hs⟩ := y
  have hk : k ≤ T.length := hk
  have hj : j < T.length := hj
  have hs : lF T (T.length - k) j = lF T T.length i := hs
  change Go C _ ⟨[(0, iv T), (1, vi (j : Int)), (5, vi (k : Int))], [], 0⟩ _
  refine x.cond rfl trivial (fun h3 => ?_) (fun h3 => ?_)
  · have h3 : k < T.length := by have := of_decide_eq_true h3; omega
    obtain ⟨f, hf⟩ : ∃ f, T.length - k = f + 1 := ⟨T.length - k - 1, by omega⟩
    rw [hf] at hs
    refine x.cond rfl trivial (fun h4 => ?_) (fun h4 => ?_)
    · have h4 : j = 0 := by have := of_decide_eq_true h4; omega
      subst h4
      rw [lF_zero] at hs
      refine x.exit rfl (by simp only [AllP]; omega) ?_
      refine ⟨.inr rfl, ?_, trivial, rfl⟩
      show decide (T.getD 0 0 = -1) = (lF T T.length i && decide (T.getD 0 0 = -1))
      rw [← hs, Bool.true_and]
    · have h4 : j ≠ 0 := fun e => by subst e; exact absurd rfl (of_decide_eq_false h4)
      refine x.cond rfl (by simp only [AllP]; omega) (fun h5 => ?_) (fun h5 => ?_)
      · have h5 : (decide (T.getD j 0 < 0) || decide ((T.length : Int) ≤ T.getD j 0)) = true := h5
        rw [Bool.or_eq_true, decide_eq_true_eq, decide_eq_true_eq] at h5
        rw [lF_stop h4 (by omega)] at hs
        refine x.exit rfl trivial ?_
        refine ⟨.inr rfl, ?_, trivial, rfl⟩
        show false = (lF T T.length i && decide (T.getD 0 0 = -1))
        rw [← hs]; rfl
      · have h5 : (decide (T.getD j 0 < 0) || decide ((T.length : Int) ≤ T.getD j 0)) = false := h5
        rw [Bool.or_eq_false_iff, decide_eq_false_iff_not, decide_eq_false_iff_not] at h5
        rw [lF_go h4 (by omega)] at hs
        refine x.back rfl (show inI64 _ by unfold inI64; omega) ⟨⟨(k + 1, (T.getD j 0).toNat), by show k + 1 ≤ _; omega, by show (T.getD j 0).toNat < _; omega, ?_⟩, by show T.length - (k + 1) < T.length - k; omega, ⟨veq_d rfl, ?_, rfl, trivial⟩, trivial, rfl⟩
        · show lF T (T.length - (k + 1)) (T.getD j 0).toNat = _
          rw [show T.length - (k + 1) = f by omega]; exact hs
        · show T.getD j 0 = (((T.getD j 0).toNat : Nat) : Int); omega
  · have h3 : k = T.length := by have := of_decide_eq_false h3; omega
    subst h3
    rw [Nat.sub_self] at hs
    refine x.exit rfl ?_ ?_
    · simp only [AllP]; omega
    · refine ⟨.inr rfl, ?_, trivial, rfl⟩
      show (decide ((j : Int) = 0) && decide (T.getD 0 0 = -1)) = (lF T T.length i && decide (T.getD 0 0 = -1))
      rw [← hs]
      congr 1
      rw [Bool.eq_iff_iff, decide_eq_true_eq, lF, decide_eq_true_eq]
      omega

/-! ### Chain -/
theorem chn_len (T : List Int) : ∀ f a, (chn T f a).length ≤ f
  | 0, _ => Nat.le_refl _
  | f + 1, a => by
    rw [chn]; split
    · simp
    · have := chn_len T f (T.getD a.toNat 0); rw [List.length_cons]; omega
theorem chainL_len (T : List Int) (a : Int) : (chainL T a).length ≤ 257 := by
  unfold chainL
  split
  · rename_i h
    have := chn_len T (T.length + 1) a
    have := h.1.2.1
    omega
  · simp
/-- The first i of a chain are noted; what is left begins at c. -/
structure ChI (T : List Int) (a : Nat) (out : List Int) (c : Int) (f : Nat) : Prop where
  app : out ++ chn T (f + 1) c = chn T (T.length + 1) (a : Int)
  len : out.length + f = T.length ∨ (c = -1 ∧ out.length ≤ T.length + 1)
  cur : c = -1 ∨ (0 ≤ c ∧ c < T.length ∧ lF T f c.toNat = true)
theorem ChI.start {T : List Int} (h : TreeOK T) {a : Nat} (ha : a < T.length) : ChI T a [] (a : Int) T.length :=
  ⟨rfl, .inl (by simp), .inr ⟨by omega, by omega, by rw [Int.toNat_natCast]; exact h.2.2.2 a ha⟩⟩
theorem ChI.end_ {T : List Int} {a : Nat} {out : List Int} {c : Int} {f : Nat} (h : ChI T a out c f) (hc : c = -1) : out = chn T (T.length + 1) (a : Int) := by
  have := h.app
  rw [hc, chn, if_pos (by omega), List.append_nil] at this
  exact this
theorem ChI.next {T : List Int} (h0 : T.getD 0 0 = -1) {a : Nat} {out : List Int} {c : Int} {f : Nat} (h : ChI T a out c f) (hc : c ≠ -1) : 0 ≤ c ∧ c < T.length ∧ out.length ≤ T.length ∧ ∃ f', ChI T a (out ++ [c]) (T.getD c.toNat 0) f' := by
  rcases h.cur with e | ⟨c1, c2, c3⟩
  · exact absurd e hc
  rcases h.len with hl | ⟨e, _⟩
  · refine ⟨c1, c2, by omega, ?_⟩
    have happ := h.app
    rw [chn, if_neg (by omega)] at happ
    by_cases hz : c = 0
    · subst hz
      rw [show (0 : Int).toNat = 0 from rfl, h0] at happ ⊢
      refine ⟨0, ?_, .inr ⟨rfl, by simp; omega⟩, .inl rfl⟩
      rw [← happ]
      have e1 : chn T (0 + 1) (-1) = [] := by rw [chn, if_pos (by omega)]
      have e2 : chn T f (-1) = [] := by cases f with
        | zero => rfl
        | succ f => rw [chn, if_pos (by omega)]
      rw [e1, e2]; simp
    · cases f with
      | zero => exact absurd (by have : c.toNat = 0 := by simpa [lF] using c3
                                 omega) hz
      | succ f =>
        rw [lF, if_neg (by omega)] at c3
        split at c3
        · cases c3
        · rename_i hr
          refine ⟨f, ?_, .inl (by simp; omega), .inr ⟨by omega, by omega, c3⟩⟩
          rw [← happ]; simp
  · exact absurd e hc
theorem chain_spec (T : List Int) (a : Int) (hT : T.length ≤ 9223372036854775807) : Pure PG 18 [iv T, vi a] (iv (chainL T a)) [] := by
  refine Proc.mk (cfg 46) tysOK [] Try.func18 rfl (by kernel_rfl) rfl rfl rfl ?_
  intro C x
  have none : ¬ (TreeOK T ∧ 0 ≤ a ∧ a < T.length) → (chainL T a).length = 0 := fun h => by rw [chainL, if_neg h]; rfl
  refine x.cond rfl trivial (fun h => ?_) (fun h => ?_)
  · have h : (((decide ((T.length : Int) < 1) || decide ((256 : Int) < T.length)) || decide (a < 0)) || decide ((T.length : Int) ≤ a)) = true := h
    rw [Bool.or_eq_true, Bool.or_eq_true, Bool.or_eq_true, decide_eq_true_eq, decide_eq_true_eq, decide_eq_true_eq, decide_eq_true_eq] at h
    refine x.exit rfl trivial ?_
    refine ⟨.inr rfl, ?_, trivial, rfl⟩
    refine none fun hx => ?_
    have := hx.1.1
    have := hx.1.2.1
    omega
  have h : (((decide ((T.length : Int) < 1) || decide ((256 : Int) < T.length)) || decide (a < 0)) || decide ((T.length : Int) ≤ a)) = false := h
  rw [Bool.or_eq_false_iff, Bool.or_eq_false_iff, Bool.or_eq_false_iff, decide_eq_false_iff_not, decide_eq_false_iff_not, decide_eq_false_iff_not, decide_eq_false_iff_not] at h
  obtain ⟨⟨⟨g1, g2⟩, g3⟩, g4⟩ := h
  refine x.loop (α := { i : Nat // i ≤ T.length ∧ ∀ j, j < i → (lF T T.length j && decide (T.getD 0 0 = -1)) = true }) (fun y => ⟨[(0, iv T), (1, vi a), (26, vi (T.length : Int)), (27, vi (y.1 : Int))], [], 0⟩) (fun y => T.length - y.1) ⟨0, by omega, fun j hj => by omega⟩ rfl trivial ⟨⟨veq_d rfl, rfl, rfl, rfl, trivial⟩, trivial, rfl⟩ (fun y => ?_)
  obtain ⟨i, hi, hall⟩ := y
  change Go C _ ⟨[(0, iv T), (1, vi a), (26, vi (T.length : Int)), (27, vi (i : Int))], [], 0⟩ _
  refine x.cond rfl trivial (fun h1 => ?_) (fun h1 => ?_)
  · have h1 : i < T.length := by have := of_decide_eq_true h1; omega
    refine x.pure rfl trivial rfl (leads11_spec T i (by omega) (by omega) h1) ⟨veq_d rfl, rfl, trivial⟩ ?_
    refine x.cond rfl trivial (fun h2 => ?_) (fun h2 => ?_)
    · have h2 : (!(lF T T.length i && decide (T.getD 0 0 = -1))) = true := h2
      refine x.exit rfl trivial ?_
      refine ⟨.inr rfl, ?_, trivial, rfl⟩
      refine none fun hx => ?_
      rw [hx.1.2.2.2 i h1, decide_eq_true hx.1.2.2.1] at h2
      cases h2
    · have h2 : (!(lF T T.length i && decide (T.getD 0 0 = -1))) = false := h2
      refine x.back rfl (show inI64 _ by unfold inI64; omega) ⟨⟨i + 1, by omega, fun j hj => ?_⟩, by show T.length - (i + 1) < T.length - i; omega, ⟨veq_d rfl, rfl, rfl, rfl, trivial⟩, trivial, rfl⟩
      by_cases e : j = i
      · rw [e]; simpa using h2
      · exact hall j (by omega)
  · have h1 : i = T.length := by have := of_decide_eq_false h1; omega
    subst h1
    have hok : TreeOK T := ⟨by omega, by omega, by have := hall 0 (by omega); rw [Bool.and_eq_true, decide_eq_true_eq] at this; exact this.2, fun j hj => by have := hall j hj; rw [Bool.and_eq_true] at this; exact this.1⟩
    have hc : chainL T a = chn T (T.length + 1) a := by rw [chainL, if_pos ⟨hok, by omega, by omega⟩]
    obtain ⟨b, rfl⟩ : ∃ b : Nat, a = (b : Int) := ⟨a.toNat, by omega⟩
    refine x.toLoop rfl trivial ?_
    refine Go.own 6 3 1 (fun j => [.int .i64 (([] : List Int).getD j 0)]) rfl ?_
    refine x.loop (α := { y : List Int × Int × Nat // ChI T b y.1 y.2.1 y.2.2 }) (fun y => ⟨[(0, iv T), (1, vi y.1.2.1), (6, .own 0)], [(0, outC y.1.1)], 1⟩) (fun y => T.length + 2 - y.1.1.length - (if y.1.2.1 = -1 then 1 else 0)) ⟨([], (b : Int), T.length), ChI.start hok (by omega)⟩ rfl trivial ?_ (fun y => ?_)
    · exact ⟨⟨veq_d rfl, rfl, rfl, trivial⟩, ⟨⟨rfl, rfl, rfl, fun _ _ => rfl⟩, trivial⟩, rfl⟩
    obtain ⟨⟨out, c, f⟩, hI⟩ := y
    have hI : ChI T b out c f := hI
    change Go C _ ⟨[(0, iv T), (1, vi c), (6, .own 0)], [(0, outC out)], 1⟩ _
    refine x.cond rfl trivial (fun h3 => ?_) (fun h3 => ?_)
    · have h3 : c ≠ -1 := fun e => by rw [e] at h3; cases h3
      obtain ⟨c1, c2, c3, f', hf⟩ := hI.next hok.2.2.1 h3
      refine x.back rfl ?_ ⟨⟨(out ++ [c], T.getD c.toNat 0, f'), hf⟩, ?_, ⟨veq_d rfl, rfl, rfl, trivial⟩, ⟨⟨rfl, rfl, ?_, fun j hj => app_list _ _ _ _ hj⟩, trivial⟩, rfl⟩
      · simp only [AllP, big]; omega
      · show T.length + 2 - (out ++ [c]).length - _ < T.length + 2 - out.length - _
        rw [if_neg h3, List.length_append, List.length_singleton]
        omega
      · show out.length + 1 = (out ++ [c]).length
        simp
    · have h3 : c = -1 := by
        rcases hI.cur with e | ⟨e, _⟩
        · exact e
        · have : decide (0 ≤ c) = false := h3
          rw [decide_eq_true e] at this; cases this
      rw [hc, ← hI.end_ h3]
      refine Sx.Go.freeze 0 ?_
      refine x.exit rfl trivial ?_
      exact ⟨.inr rfl, veq_d rfl, trivial, rfl⟩
end Go.Proofs.Ytiobpiglhbincaa

/- Dominates, Near; the answers' Right, Chain, Near, Dominates; the example. -/
namespace Go.Proofs.Ytiobpiglhbincaa
open Go.Sx
set_option linter.unusedVariables false
set_option linter.unusedSimpArgs false
set_option maxRecDepth 100000

theorem dominates_spec (T : List Int) (a b : Int) (hT : T.length ≤ 9223372036854775807) : Pure PG 15 [iv T, vi a, vi b] (vb ((chainL T b).contains a)) [] := by
  refine Proc.mk (cfg 12) tysOK [] Try.func15 rfl (by kernel_rfl) rfl rfl rfl ?_
  intro C x
  refine x.pure rfl trivial rfl (chain_spec T b hT) ⟨veq_d rfl, rfl, trivial⟩ ?_
  refine x.pure rfl trivial rfl (contains_spec (chainL T b) a (by have := chainL_len T b; omega)) ⟨veq_d rfl, rfl, trivial⟩ ?_
  refine x.exit rfl trivial ?_
  exact ⟨.inr rfl, rfl, trivial, rfl⟩

/-- The first of a list that is in another one. -/
def nearF (m : List Int) : List Int → Int
  | [] => -1
  | k :: r => if m.contains k then k else nearF m r
theorem nearF_drop {m l : List Int} {i : Nat} (hi : i < l.length) : nearF m (l.drop i) = if m.contains (l.getD i 0) then l.getD i 0 else nearF m (l.drop (i + 1)) := by
  rw [List.drop_eq_getElem_cons hi, nearF, getD_at hi]
def nearL (T : List Int) (a b : Int) : Int := nearF (chainL T b) (chainL T a)
theorem nearF_low {m : List Int} : ∀ {l : List Int}, (∀ x ∈ l, 0 ≤ x) → -1 ≤ nearF m l
  | [], _ => Int.le_refl _
  | k :: r, h => by
    rw [nearF]
    split
    · have := h k (by simp); omega
    · exact nearF_low fun x hx => h x (by simp [hx])
theorem chainL_mem {T : List Int} {a x : Int} (h : x ∈ chainL T a) : 0 ≤ x := by
  unfold chainL at h
  split at h
  · exact chn_mem h
  · cases h
theorem near_spec (T : List Int) (a b : Int) (hT : T.length ≤ 9223372036854775807) : Pure PG 19 [iv T, vi a, vi b] (.tup [vi (mx0 (nearL T a b)), vb (decide (0 ≤ nearL T a b))]) [] := by
  refine Proc.mk (cfg 27) tysOK [] Try.func19 rfl (by kernel_rfl) rfl rfl rfl ?_
  intro C x
  refine x.pure rfl trivial rfl (chain_spec T b hT) ⟨veq_d rfl, rfl, trivial⟩ ?_
  refine x.pure rfl trivial rfl (chain_spec T a hT) ⟨veq_d rfl, rfl, trivial⟩ ?_
  have e : nearL T a b = nearF (chainL T b) (chainL T a) := rfl
  have hla := chainL_len T a
  have hlb := chainL_len T b
  have hpos : ∀ x ∈ chainL T a, 0 ≤ x := fun x hx => chainL_mem hx
  obtain ⟨l, hl⟩ : ∃ l, chainL T a = l := ⟨_, rfl⟩
  obtain ⟨m, hm⟩ : ∃ m, chainL T b = m := ⟨_, rfl⟩
  rw [hl] at hla hpos
  rw [hm] at hlb
  rw [hl, hm] at e
  rw [hl, hm, e]
  refine x.loop (α := { i : Nat // i ≤ l.length ∧ nearF m (l.drop i) = nearF m l }) (fun y => ⟨[(8, iv m), (16, iv l), (17, vi (l.length : Int)), (18, vi (y.1 : Int))], [], 0⟩) (fun y => l.length - y.1) ⟨0, by omega, rfl⟩ rfl trivial ⟨⟨veq_d rfl, veq_d rfl, rfl, rfl, trivial⟩, trivial, rfl⟩ (fun y => ?_)
  obtain ⟨i, hi, hs⟩ := y
  change Go C _ ⟨[(8, iv m), (16, iv l), (17, vi (l.length : Int)), (18, vi (i : Int))], [], 0⟩ _
  refine x.cond rfl trivial (fun h1 => ?_) (fun h1 => ?_)
  · have h1 : i < l.length := by have := of_decide_eq_true h1; omega
    rw [nearF_drop h1] at hs
    refine x.pure rfl (by simp only [AllP]; omega) rfl (contains_spec m (l.getD i 0) (by omega)) ⟨veq_d rfl, rfl, trivial⟩ ?_
    refine x.cond rfl trivial (fun h2 => ?_) (fun h2 => ?_)
    · rw [if_pos h2] at hs
      have h0 := hpos _ (getD_in h1)
      refine x.exit rfl trivial ?_
      refine ⟨.inr rfl, ⟨?_, ?_, trivial⟩, trivial, rfl⟩
      · show l.getD i 0 = mx0 (nearF m l)
        rw [← hs, mx0, if_neg (by omega)]
      · show true = decide (0 ≤ nearF m l)
        rw [← hs, decide_eq_true h0]
    · rw [if_neg (by rw [show m.contains (l.getD i 0) = false from h2]; simp)] at hs
      exact x.back rfl (show inI64 _ by unfold inI64; omega) ⟨⟨i + 1, by omega, hs⟩, by show l.length - (i + 1) < l.length - i; omega, ⟨veq_d rfl, veq_d rfl, rfl, rfl, trivial⟩, trivial, rfl⟩
  · have h1 : i = l.length := by have := of_decide_eq_false h1; omega
    subst h1
    rw [List.drop_length, nearF] at hs
    refine x.exit rfl trivial ?_
    refine ⟨.inr rfl, ⟨?_, ?_, trivial⟩, trivial, rfl⟩
    · show (0 : Int) = mx0 (nearF m l)
      rw [← hs]; rfl
    · show false = decide (0 ≤ nearF m l)
      rw [← hs]; rfl

/-! ### the answers -/
theorem right11_spec (T : List Int) (hT : T.length ≤ 9223372036854775807) : Pure PG 17 [iv T] (vb (decide (TreeOK T))) [] := by
  refine Proc.mk (cfg 51) tysOK [] Try.func17 rfl (by kernel_rfl) rfl rfl rfl ?_
  intro C x
  have no : ¬ TreeOK T → false = decide (TreeOK T) := fun h => (decide_eq_false h).symm
  refine x.cond rfl ?_ (fun h => ?_) (fun h => ?_)
  · simp only [AllP, Bool.or_eq_false_iff, decide_eq_false_iff_not]; omega
  · have h : ((decide ((T.length : Int) < 1) || decide ((256 : Int) < T.length)) || !decide (T.getD 0 0 = -1)) = true := h
    rw [Bool.or_eq_true, Bool.or_eq_true, Bool.not_eq_true', decide_eq_true_eq, decide_eq_true_eq, decide_eq_false_iff_not] at h
    refine x.exit rfl trivial ?_
    refine ⟨.inr rfl, no fun hx => ?_, trivial, rfl⟩
    have := hx.1
    have := hx.2.1
    have := hx.2.2.1
    omega
  have h : ((decide ((T.length : Int) < 1) || decide ((256 : Int) < T.length)) || !decide (T.getD 0 0 = -1)) = false := h
  rw [Bool.or_eq_false_iff, Bool.or_eq_false_iff, Bool.not_eq_false', decide_eq_true_eq, decide_eq_false_iff_not, decide_eq_false_iff_not] at h
  obtain ⟨⟨g1, g2⟩, g3⟩ := h
  refine x.loop (α := { i : Nat // 1 ≤ i ∧ i ≤ T.length ∧ ∀ j, j < i → lF T T.length j = true }) (fun y => ⟨[(0, iv T), (3, vi (y.1 : Int))], [], 0⟩) (fun y => T.length - y.1) ⟨1, by omega, by omega, fun j hj => by rw [show j = 0 by omega]; exact lF_zero _ _⟩ rfl trivial ⟨⟨veq_d rfl, rfl, trivial⟩, trivial, rfl⟩ (fun y => ?_)
  obtain ⟨i, hi1, hi, hall⟩ := y
  change Go C _ ⟨[(0, iv T), (3, vi (i : Int))], [], 0⟩ _
  refine x.cond rfl trivial (fun h1 => ?_) (fun h1 => ?_)
  · have h1 : i < T.length := by have := of_decide_eq_true h1; omega
    refine x.loop (α := { y : Nat × Nat // y.1 ≤ T.length ∧ y.2 < T.length ∧ lF T (T.length - y.1) y.2 = lF T T.length i }) (fun y => ⟨[(0, iv T), (3, vi (i : Int)), (4, vi (y.1.2 : Int)), (5, vi (y.1.1 : Int))], [], 0⟩) (fun y => T.length - y.1.1) ⟨(0, i), by omega, h1, rfl⟩ rfl trivial ⟨⟨veq_d rfl, rfl, rfl, rfl, trivial⟩, trivial, rfl⟩ (fun y => ?_)
    obtain ⟨⟨s, k⟩, hs, hk, he⟩ := y
    have hs : s ≤ T.length := hs
    have hk : k < T.length := hk
    have he : lF T (T.length - s) k = lF T T.length i := he
    change Go C _ ⟨[(0, iv T), (3, vi (i : Int)), (4, vi (k : Int)), (5, vi (s : Int))], [], 0⟩ _
    refine x.cond rfl trivial (fun h2 => ?_) (fun h2 => ?_)
    · have h2 : (decide ((0 : Int) < k) && decide ((s : Int) < T.length)) = true := h2
      rw [Bool.and_eq_true, decide_eq_true_eq, decide_eq_true_eq] at h2
      obtain ⟨f, hf⟩ : ∃ f, T.length - s = f + 1 := ⟨T.length - s - 1, by omega⟩
      rw [hf] at he
      refine x.cond rfl (by simp only [AllP]; omega) (fun h5 => ?_) (fun h5 => ?_)
      · have h5 : (decide (T.getD k 0 < 0) || decide ((T.length : Int) ≤ T.getD k 0)) = true := h5
        rw [Bool.or_eq_true, decide_eq_true_eq, decide_eq_true_eq] at h5
        rw [lF_stop (by omega) (by omega)] at he
        refine x.exit rfl trivial ?_
        refine ⟨.inr rfl, no fun hx => ?_, trivial, rfl⟩
        rw [hx.2.2.2 i h1] at he; cases he
      · have h5 : (decide (T.getD k 0 < 0) || decide ((T.length : Int) ≤ T.getD k 0)) = false := h5
        rw [Bool.or_eq_false_iff, decide_eq_false_iff_not, decide_eq_false_iff_not] at h5
        rw [lF_go (by omega) (by omega)] at he
        refine x.back rfl (show inI64 _ by unfold inI64; omega) ⟨⟨(s + 1, (T.getD k 0).toNat), by show s + 1 ≤ _; omega, by show (T.getD k 0).toNat < _; omega, ?_⟩, by show T.length - (s + 1) < T.length - s; omega, ⟨veq_d rfl, rfl, ?_, rfl, trivial⟩, trivial, rfl⟩
        · show lF T (T.length - (s + 1)) (T.getD k 0).toNat = _
          rw [show T.length - (s + 1) = f by omega]; exact he
        · show T.getD k 0 = (((T.getD k 0).toNat : Nat) : Int); omega
    · have h2 : (decide ((0 : Int) < k) && decide ((s : Int) < T.length)) = false := h2
      have h6 : lF T T.length i = decide (k = 0) := by
        rw [← he]
        by_cases e : k = 0
        · rw [e, lF_zero]; rfl
        · rw [decide_eq_true (by omega : (0 : Int) < k), Bool.true_and, decide_eq_false_iff_not] at h2
          rw [show T.length - s = 0 by omega]; rfl
      refine x.cond rfl trivial (fun h3 => ?_) (fun h3 => ?_)
      · have h3 : (!decide ((k : Int) = 0)) = true := h3
        rw [Bool.not_eq_true', decide_eq_false_iff_not] at h3
        refine x.exit rfl trivial ?_
        refine ⟨.inr rfl, no fun hx => ?_, trivial, rfl⟩
        rw [hx.2.2.2 i h1, decide_eq_false (by omega)] at h6
        cases h6
      · have h3 : (!decide ((k : Int) = 0)) = false := h3
        rw [Bool.not_eq_false', decide_eq_true_eq] at h3
        refine x.back rfl (show inI64 _ by unfold inI64; omega) ⟨⟨i + 1, by omega, by omega, fun j hj => ?_⟩, by show T.length - (i + 1) < T.length - i; omega, ⟨veq_d rfl, rfl, trivial⟩, trivial, rfl⟩
        by_cases e : j = i
        · rw [e, h6, decide_eq_true (by omega)]
        · exact hall j (by omega)
  · have h1 : i = T.length := by have := of_decide_eq_false h1; omega
    subst h1
    refine x.exit rfl trivial ?_
    refine ⟨.inr rfl, ?_, trivial, rfl⟩
    exact (decide_eq_true (⟨by omega, by omega, g3, hall⟩ : TreeOK T)).symm
theorem refchain_spec (T : List Int) (a : Int) (hT : T.length ≤ 9223372036854775807) : Pure PG 21 [iv T, vi a] (iv (chainL T a)) [] := by
  refine Proc.mk (cfg 32) tysOK [] Try.func21 rfl (by kernel_rfl) rfl rfl rfl ?_
  intro C x
  refine x.pure rfl trivial rfl (right11_spec T hT) ⟨veq_d rfl, trivial⟩ ?_
  refine x.cond rfl trivial (fun h => ?_) (fun h => ?_)
  · have h : ((!decide (TreeOK T) || decide (a < 0)) || decide ((T.length : Int) ≤ a)) = true := h
    rw [Bool.or_eq_true, Bool.or_eq_true, Bool.not_eq_true', decide_eq_true_eq, decide_eq_true_eq, decide_eq_false_iff_not] at h
    refine x.exit rfl trivial ?_
    refine ⟨.inr rfl, ?_, trivial, rfl⟩
    show (chainL T a).length = 0
    rw [chainL, if_neg ?_]
    · rfl
    · rintro ⟨h1, h2, h3⟩
      rcases h with (h | h) | h
      · exact h h1
      · omega
      · omega
  have h : ((!decide (TreeOK T) || decide (a < 0)) || decide ((T.length : Int) ≤ a)) = false := h
  rw [Bool.or_eq_false_iff, Bool.or_eq_false_iff, Bool.not_eq_false', decide_eq_true_eq, decide_eq_false_iff_not, decide_eq_false_iff_not] at h
  obtain ⟨⟨hok, g3⟩, g4⟩ := h
  have hc : chainL T a = chn T (T.length + 1) a := by rw [chainL, if_pos ⟨hok, by omega, by omega⟩]
  have := hok.2.1
  obtain ⟨b, rfl⟩ : ∃ b : Nat, a = (b : Int) := ⟨a.toNat, by omega⟩
  refine x.toLoop rfl trivial ?_
  refine Go.own 5 3 1 (fun j => [.int .i64 (([] : List Int).getD j 0)]) rfl ?_
  refine x.loop (α := { y : List Int × Int × Nat // ChI T b y.1 y.2.1 y.2.2 }) (fun y => ⟨[(0, iv T), (6, vi y.1.2.1), (5, .own 0)], [(0, outC y.1.1)], 1⟩) (fun y => T.length + 2 - y.1.1.length - (if y.1.2.1 = -1 then 1 else 0)) ⟨([], (b : Int), T.length), ChI.start hok (by omega)⟩ rfl trivial ?_ (fun y => ?_)
  · exact ⟨⟨veq_d rfl, rfl, rfl, trivial⟩, ⟨⟨rfl, rfl, rfl, fun _ _ => rfl⟩, trivial⟩, rfl⟩
  obtain ⟨⟨out, c, f⟩, hI⟩ := y
  have hI : ChI T b out c f := hI
  change Go C _ ⟨[(0, iv T), (6, vi c), (5, .own 0)], [(0, outC out)], 1⟩ _
  refine x.cond rfl trivial (fun h3 => ?_) (fun h3 => ?_)
  · have h3 : c ≠ -1 := by
      have h3 : (!decide (c = -1)) = true := h3
      rwa [Bool.not_eq_true', decide_eq_false_iff_not] at h3
    obtain ⟨c1, c2, c3, f', hf⟩ := hI.next hok.2.2.1 h3
    refine x.back rfl ?_ ⟨⟨(out ++ [c], T.getD c.toNat 0, f'), hf⟩, ?_, ⟨veq_d rfl, rfl, rfl, trivial⟩, ⟨⟨rfl, rfl, ?_, fun j hj => app_list _ _ _ _ hj⟩, trivial⟩, rfl⟩
    · simp only [AllP, big]; omega
    · show T.length + 2 - (out ++ [c]).length - _ < T.length + 2 - out.length - _
      rw [if_neg h3, List.length_append, List.length_singleton]
      omega
    · show out.length + 1 = (out ++ [c]).length
      simp
  · have h3 : c = -1 := by
      have h3 : (!decide (c = -1)) = false := h3
      rwa [Bool.not_eq_false', decide_eq_true_eq] at h3
    rw [hc, ← hI.end_ h3]
    refine Sx.Go.freeze 0 ?_
    refine x.exit rfl trivial ?_
    exact ⟨.inr rfl, veq_d rfl, trivial, rfl⟩
theorem refnear_spec (T : List Int) (a b : Int) (hT : T.length ≤ 9223372036854775807) : Pure PG 20 [iv T, vi a, vi b] (vi (nearL T a b)) [] := by
  refine Proc.mk (cfg 32) tysOK [] Try.func20 rfl (by kernel_rfl) rfl rfl rfl ?_
  intro C x
  refine x.pure rfl trivial rfl (refchain_spec T a hT) ⟨veq_d rfl, rfl, trivial⟩ ?_
  refine x.pure rfl trivial rfl (refchain_spec T b hT) ⟨veq_d rfl, rfl, trivial⟩ ?_
  have e : nearL T a b = nearF (chainL T b) (chainL T a) := rfl
  have hla := chainL_len T a
  have hlb := chainL_len T b
  obtain ⟨l, hl⟩ : ∃ l, chainL T a = l := ⟨_, rfl⟩
  obtain ⟨m, hm⟩ : ∃ m, chainL T b = m := ⟨_, rfl⟩
  rw [hl] at hla
  rw [hm] at hlb
  rw [hl, hm] at e
  rw [hl, hm, e]
  refine x.loop (α := { i : Nat // i ≤ l.length ∧ nearF m (l.drop i) = nearF m l }) (fun y => ⟨[(7, iv l), (8, iv m), (9, vi (y.1 : Int))], [], 0⟩) (fun y => l.length - y.1) ⟨0, by omega, rfl⟩ rfl trivial ⟨⟨veq_d rfl, veq_d rfl, rfl, trivial⟩, trivial, rfl⟩ (fun y => ?_)
  obtain ⟨i, hi, hs⟩ := y
  change Go C _ ⟨[(7, iv l), (8, iv m), (9, vi (i : Int))], [], 0⟩ _
  refine x.cond rfl trivial (fun h1 => ?_) (fun h1 => ?_)
  · have h1 : i < l.length := by have := of_decide_eq_true h1; omega
    rw [nearF_drop h1] at hs
    refine x.pure rfl (by simp only [AllP]; omega) rfl (in_spec m (l.getD i 0) (by omega)) ⟨veq_d rfl, rfl, trivial⟩ ?_
    refine x.cond rfl trivial (fun h2 => ?_) (fun h2 => ?_)
    · rw [if_pos h2] at hs
      refine x.exit rfl (by simp only [AllP]; omega) ?_
      exact ⟨.inr rfl, hs, trivial, rfl⟩
    · rw [if_neg (by rw [show m.contains (l.getD i 0) = false from h2]; simp)] at hs
      exact x.back rfl (show inI64 _ by unfold inI64; omega) ⟨⟨i + 1, by omega, hs⟩, by show l.length - (i + 1) < l.length - i; omega, ⟨veq_d rfl, veq_d rfl, rfl, trivial⟩, trivial, rfl⟩
  · have h1 : i = l.length := by have := of_decide_eq_false h1; omega
    subst h1
    rw [List.drop_length, nearF] at hs
    refine x.exit rfl trivial ?_
    exact ⟨.inr rfl, hs, trivial, rfl⟩
theorem refdom_spec (to : List (List Int)) (hg : GOK to) (a b : Nat) (hb : b < to.length) : Pure PG 16 [gv to, vi (a : Int), vi (b : Int)] (vb (overB to a b)) [] := by
  refine Proc.mk (cfg 19) tysOK [] Try.func16 rfl (by kernel_rfl) rfl rfl rfl ?_
  intro C x
  refine x.pureG rfl trivial rfl (fun _ => without_spec to hg 0 (a : Int) hg.1) rfl ⟨veq_d rfl, rfl, rfl, trivial⟩ ?_
  refine x.exit rfl (by simp only [AllP]; omega) ?_
  exact ⟨.inr rfl, rfl, trivial, rfl⟩

/-! ### the example -/
def exD : List (List Int) := [[1], [2], [1, 3], []]
theorem exd_gok : GOK exD := by decide +kernel
theorem exd_seen : AllSeen exD := ⟨exd_gok, by decide +kernel⟩
theorem exd_fit : Fit exD := ⟨by decide +kernel, by decide +kernel⟩
theorem way_in {to : List (List Int)} {no : Int} (S : Nat → Bool) (h0 : S 0 = true) (hs : ∀ j, S j = true → ∀ k ∈ to.getD j [], k ≠ no → S k.toNat = true) {v : Nat} (h : Way to no 0 v) : S v = true := by
  induction h with
  | here => exact h0
  | step _ hk hn ih => exact hs _ ih _ hk hn
theorem exd_tree : treeL exD = [-1, 0, 1, 2] := by
  obtain ⟨D, hD⟩ := tre_ex exd_seen
  have hn := exd_seen.net
  have p0 : plc exD 0 = 0 := by decide +kernel
  have p1 : plc exD 1 = 1 := by decide +kernel
  have p2 : plc exD 2 = 2 := by decide +kernel
  have p3 : plc exD 3 = 3 := by decide +kernel
  have hl : exD.length = 4 := rfl
  have d12 : Dom exD 1 2 := fun hw => by
    have := way_in (fun j => decide (j = 0)) rfl (fun j hj k hk hne => by
      have : j = 0 := by simpa using hj
      subst this
      have : k = 1 := by simpa [exD] using hk
      exact absurd this hne) hw
    simp at this
  have d23 : Dom exD 2 3 := fun hw => by
    have := way_in (fun j => decide (j = 0 ∨ j = 1)) rfl (fun j hj k hk hne => by
      have : j = 0 ∨ j = 1 := by simpa using hj
      rcases this with rfl | rfl
      · have : k = 1 := by simpa [exD] using hk
        subst this; rfl
      · have : k = 2 := by simpa [exD] using hk
        exact absurd this hne) hw
    simp at this
  have step : ∀ v, v < 4 → v ≠ 0 → ∃ d : Nat, D v = d ∧ d < 4 ∧ plc exD d < plc exD v ∧ ∀ x, x ≠ v → Dom exD x v → plc exD x ≤ plc exD d := fun v hv h0 => by
    obtain ⟨r1, r2⟩ := hD.rng v hv h0
    refine ⟨(D v).toNat, by omega, by omega, hD.falls v r1, fun x hx hd => ?_⟩
    rcases ((hD.dom v hv x).2 hd).cases' with e | ⟨_, hc⟩
    · exact absurd e.symm hx
    · exact (hc.le hD.falls).1
  have e1 : D 1 = 0 := by
    obtain ⟨d, e, h1, h2, _⟩ := step 1 (by omega) (by omega)
    rw [p1] at h2
    have := hn.zero_of (v := d) h1 (by omega)
    rw [e, this]; rfl
  have e2 : D 2 = 1 := by
    obtain ⟨d, e, h1, h2, h3⟩ := step 2 (by omega) (by omega)
    have h3 := h3 1 (by omega) d12
    rw [p1] at h3; rw [p2] at h2
    have := hn.inj d 1 h1 (by omega) (by omega)
    rw [e, this]; rfl
  have e3 : D 3 = 2 := by
    obtain ⟨d, e, h1, h2, h3⟩ := step 3 (by omega) (by omega)
    have h3 := h3 2 (by omega) d23
    rw [p2] at h3; rw [p3] at h2
    have := hn.inj d 2 h1 (by omega) (by omega)
    rw [e, this]; rfl
  rw [treeL_yes exd_seen]
  show [idomF exD 0, idomF exD 1, idomF exD 2, idomF exD 3] = _
  rw [← hD.idom hn (v := 0) (by omega), ← hD.idom hn (v := 1) (by omega), ← hD.idom hn (v := 2) (by omega), ← hD.idom hn (v := 3) (by omega), hD.d0, e1, e2, e3]
theorem awake11_spec : Pure PG 12 [] (vb true) [] := by
  refine Proc.mk (cfg 12) tysOK [] Try.func12 rfl (by kernel_rfl) rfl rfl rfl ?_
  intro C x
  refine x.op rfl trivial ?_
  refine Sx.Go.freeze 0 ?_
  refine Sx.Go.freeze 1 ?_
  refine Sx.Go.freeze 2 ?_
  refine Go.setD 1 rfl (dq_ints [1] rfl (fun i hi => by match i, hi with | 0, _ => rfl)) ?_
  refine Go.setD 2 rfl (dq_ints [2] rfl (fun i hi => by match i, hi with | 0, _ => rfl)) ?_
  refine Go.setD 3 rfl (dq_ints [1, 3] rfl (fun i hi => by match i, hi with | 0, _ => rfl | 1, _ => rfl)) ?_
  refine x.op rfl trivial ?_
  refine Sx.Go.freeze 3 ?_
  have hq : DQ (.sl 1 4 (tab ((((List.replicate 4 [D.sl 0 0 fun x => []]).set 0 [dInts [1]]).set 1 [dInts [2]]).set 2 [dInts [1, 3]]))) (dRows exD) :=
    dq_rows exD rfl fun i hi => by
      match i, hi with
      | 0, _ => exact ⟨_, rfl, .refl _⟩
      | 1, _ => exact ⟨_, rfl, .refl _⟩
      | 2, _ => exact ⟨_, rfl, .refl _⟩
      | 3, _ => exact ⟨_, rfl, .emp _ _ _ _⟩
  refine Go.setD 4 rfl hq ?_
  refine x.pure rfl trivial rfl (tree_spec exD exd_fit) ⟨veq_d rfl, trivial⟩ ?_
  rw [exd_tree]
  refine x.op rfl trivial ?_
  refine Sx.Go.freeze 4 ?_
  refine Go.setD 6 rfl (dq_ints [-1, 0, 1, 2] rfl (fun i hi => by match i, hi with | 0, _ => rfl | 1, _ => rfl | 2, _ => rfl | 3, _ => rfl)) ?_
  refine x.pure rfl trivial rfl (ints_spec [-1, 0, 1, 2] [-1, 0, 1, 2] (by decide) (by decide)) ⟨veq_d rfl, veq_d rfl, trivial⟩ ?_
  refine x.want rfl trivial rfl (by decide) ?_
  refine x.op rfl trivial ?_
  refine Sx.Go.freeze 5 ?_
  refine Go.setD 9 rfl (dq_ints [-1, 0] rfl (fun i hi => by match i, hi with | 0, _ => rfl | 1, _ => rfl)) ?_
  refine x.pureG rfl trivial rfl (fun _ => dominates_spec [-1, 0] 0 1 (by decide)) rfl ⟨veq_d rfl, rfl, rfl, trivial⟩ ?_
  refine x.exit rfl trivial ?_
  refine ⟨.inr rfl, ?_, trivial, rfl⟩
  show (decide (([-1, 0, 1, 2] : List Int) = [-1, 0, 1, 2]) && (chainL [-1, 0] 1).contains 0) = true
  decide +kernel
end Go.Proofs.Ytiobpiglhbincaa

/- The law DomOrders. -/
namespace Go.Proofs.Ytiobpiglhbincaa
open Go.Sx
set_option linter.unusedVariables false
set_option linter.unusedSimpArgs false
set_option maxRecDepth 100000

abbrev nodesV (T : List Int) (a b c : Int) : V := .agg [iv T, vi a, vi b, vi c]
theorem conf_nodes {F : Nat → Prop} {w : World} {ρ : Nat → Value} {y : Nat} {ds : List D} {cs : List Value} (h : Conf [.sl y [.int .i64], .int .i64, .int .i64, .int .i64] ds) (hr : All2 (RD F w) ds cs) :
    ∃ (T : List Int) (a b c : Int), (T.length ≤ maxLen ∧ T.length * y ≤ reachBytes) ∧ R3 ρ F w (nodesV T a b c) (.agg cs.toArray) := by
  obtain ⟨hl, hc⟩ := h
  match ds, hl, cs, hr with
  | [d0, d1, d2, d3], _, [c0, c1, c2, c3], ⟨r0, r1, r2, r3, _⟩ =>
    obtain ⟨T, hq, w0, _⟩ := conf_ints (hc 0 _ _ rfl rfl)
    obtain ⟨a, rfl, w1⟩ := conf_int (hc 1 _ _ rfl rfl)
    obtain ⟨b, rfl, w2⟩ := conf_int (hc 2 _ _ rfl rfl)
    obtain ⟨c, rfl, w3⟩ := conf_int (hc 3 _ _ rfl rfl)
    exact ⟨T, a, b, c, w0, ⟨_, rfl, hq.sound r0, r1, r2, r3, trivial⟩⟩

theorem domOrders_spec (T : List Int) (a b c : Int) (hT : T.length ≤ 9223372036854775807) : Pure PG 5 [nodesV T a b c] (vb true) [] := by
  refine Proc.mk (cfg 134) tysOK [] Try.func5 rfl (by kernel_rfl) rfl rfl rfl ?_
  intro C x
  refine x.pureG rfl trivial rfl (fun _ => right11_spec T hT) rfl ⟨veq_d rfl, trivial⟩ ?_
  refine x.cond rfl trivial (fun h => ?_) (fun h => ?_)
  · refine x.pure rfl trivial rfl awake11_spec trivial ?_
    refine x.exit rfl trivial ?_
    exact ⟨.inr rfl, rfl, trivial, rfl⟩
  have h : (((((((decide ((64 : Int) < T.length) || !decide (TreeOK T)) || decide (a < 0)) || decide (b < 0)) || decide (c < 0)) || decide ((T.length : Int) ≤ a)) || decide ((T.length : Int) ≤ b)) || decide ((T.length : Int) ≤ c)) = false := h
  simp only [Bool.or_eq_false_iff, Bool.not_eq_false', decide_eq_true_eq, decide_eq_false_iff_not] at h
  obtain ⟨⟨⟨⟨⟨⟨⟨g1, hok⟩, g3⟩, g4⟩, g5⟩, g6⟩, g7⟩, g8⟩ := h
  obtain ⟨a, rfl⟩ : ∃ a' : Nat, a = (a' : Int) := ⟨a.toNat, by omega⟩
  obtain ⟨b, rfl⟩ : ∃ b' : Nat, b = (b' : Int) := ⟨b.toNat, by omega⟩
  obtain ⟨c, rfl⟩ : ∃ c' : Nat, c = (c' : Int) := ⟨c.toNat, by omega⟩
  have mem : ∀ u v : Nat, u < T.length → ((chainL T (u : Int)).contains (v : Int) = true ↔ Chn (dT T) u v) := fun u v hu => by rw [List.contains_iff_mem, mem_chain hok hu]
  have f0 : (chainL T ((0 : Nat) : Int)).contains (a : Int) = decide ((a : Int) = 0) := by
    rw [Bool.eq_iff_iff, mem 0 a hok.1, decide_eq_true_eq]
    constructor
    · intro h; have := h.zero hok.2.2.1; omega
    · intro h; rw [show a = 0 by omega]; exact .here 0
  have f1 : (chainL T (a : Int)).contains ((0 : Nat) : Int) = true := (mem a 0 (by omega)).2 (hok.root (by omega))
  have f2 : (chainL T (a : Int)).contains (a : Int) = true := (mem a a (by omega)).2 (.here a)
  refine x.le (s' := ⟨[(1, .ptr 0 0)], [(0, .box [iv T, vi (a : Int), vi (b : Int), vi (c : Int)])], 1⟩) ⟨⟨⟨rfl, rfl⟩, trivial⟩, ⟨⟨veq0_d rfl, rfl, rfl, rfl, trivial⟩, trivial⟩, rfl⟩ ?_
  refine x.quiet rfl trivial mixedP (by kernel_rfl) ?_
  refine x.qcall rfl trivial rfl (dominates_spec T (a : Int) 0 hT) rfl rfl ⟨veq_d rfl, rfl, rfl, trivial⟩ ?_
  refine x.qcallG rfl trivial rfl (fun _ => dominates_spec T 0 (a : Int) hT) rfl rfl ⟨veq_d rfl, rfl, rfl, trivial⟩ ?_
  refine x.qcallG rfl trivial rfl (fun _ => dominates_spec T (a : Int) (a : Int) hT) rfl rfl ⟨veq_d rfl, rfl, rfl, trivial⟩ ?_
  refine x.qdone rfl trivial ?_
  refine x.cond rfl trivial (fun h => ?_) (fun h => ?_)
  · have h : ((!((chainL T ((0 : Nat) : Int)).contains (a : Int) == decide ((a : Int) = 0)) || !(chainL T (a : Int)).contains ((0 : Nat) : Int)) || !(chainL T (a : Int)).contains (a : Int)) = true := h
    rw [f0, f1, f2, beq_self_eq_true] at h
    cases h
  refine x.le (s' := ⟨[(1, .ptr 0 0)], [(0, .box [iv T, vi (a : Int), vi (b : Int), vi (c : Int)])], 1⟩) ⟨⟨⟨rfl, rfl⟩, trivial⟩, ⟨⟨veq0_d rfl, rfl, rfl, rfl, trivial⟩, trivial⟩, rfl⟩ ?_
  refine x.pure rfl trivial rfl (dominates_spec T (a : Int) (c : Int) hT) ⟨veq_d rfl, rfl, rfl, trivial⟩ ?_
  refine x.pureG rfl trivial rfl (fun _ => dominates_spec T (b : Int) (c : Int) hT) rfl ⟨veq_d rfl, rfl, rfl, trivial⟩ ?_
  refine x.cond rfl trivial (fun h => ?_) (fun h => ?_)
  · refine x.pure rfl trivial rfl awake11_spec trivial ?_
    refine x.exit rfl trivial ?_
    exact ⟨.inr rfl, rfl, trivial, rfl⟩
  have h : (!(chainL T (c : Int)).contains (a : Int) || !(chainL T (c : Int)).contains (b : Int)) = false := h
  rw [Bool.or_eq_false_iff, Bool.not_eq_false', Bool.not_eq_false', mem c a (by omega), mem c b (by omega)] at h
  refine x.le (s' := ⟨[(1, .ptr 0 0)], [(0, .box [iv T, vi (a : Int), vi (b : Int), vi (c : Int)])], 1⟩) ⟨⟨⟨rfl, rfl⟩, trivial⟩, ⟨⟨veq0_d rfl, rfl, rfl, rfl, trivial⟩, trivial⟩, rfl⟩ ?_
  refine x.quiet rfl trivial mixedP (by kernel_rfl) ?_
  refine x.qcall rfl trivial rfl (dominates_spec T (a : Int) (b : Int) hT) rfl rfl ⟨veq_d rfl, rfl, rfl, trivial⟩ ?_
  refine x.qcall rfl trivial rfl (dominates_spec T (b : Int) (a : Int) hT) rfl rfl ⟨veq_d rfl, rfl, rfl, trivial⟩ ?_
  refine x.qdone rfl trivial ?_
  refine x.pureG rfl trivial rfl (fun _ => awake11_spec) rfl trivial ?_
  refine x.exit rfl trivial ?_
  refine ⟨.inr rfl, ?_, trivial, rfl⟩
  show ((((chainL T (b : Int)).contains (a : Int) || (chainL T (a : Int)).contains (b : Int)) && (((chainL T (b : Int)).contains (a : Int) && (chainL T (a : Int)).contains (b : Int)) == decide ((a : Int) = (b : Int)))) && true) = true
  have hline : ((chainL T (b : Int)).contains (a : Int) || (chainL T (a : Int)).contains (b : Int)) = true := by
    rw [Bool.or_eq_true, mem b a (by omega), mem a b (by omega)]
    exact (h.2.line h.1)
  have hanti : ((chainL T (b : Int)).contains (a : Int) && (chainL T (a : Int)).contains (b : Int)) = decide ((a : Int) = (b : Int)) := by
    rw [Bool.eq_iff_iff, Bool.and_eq_true, mem b a (by omega), mem a b (by omega), decide_eq_true_eq]
    constructor
    · rintro ⟨h1, h2⟩; rw [hok.anti (by omega) (by omega) h2 h1]
    · intro e; rw [show a = b by omega]; exact ⟨.here b, .here b⟩
  rw [hline, hanti, beq_self_eq_true]; rfl
end Go.Proofs.Ytiobpiglhbincaa
