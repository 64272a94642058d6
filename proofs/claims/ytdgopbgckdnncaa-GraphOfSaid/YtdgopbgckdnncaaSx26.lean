/-
  Sx, part 26: statements that draw their order and write: copies first (A), then what only reads (B), in any order; what is left (T) comes one by one.
-/
import Derived.Test.YtdgopbgckdnncaaSx25
import Derived.StillTail
set_option linter.unusedVariables false
set_option linter.unusedSimpArgs false
namespace Go.Sx

def pickL (l : List Oper) : List Nat → List Oper
  | [] => []
  | i :: r => match l[i]? with
    | some o => o :: pickL l r
    | none => pickL l r

def isMove (ops : Array Oper) (i : Nat) : Bool :=
  match ops[i]? with
  | some o => match o.guard, o.op with
    | none, .move _ => true
    | none, .assign _ => true
    | _, _ => false
  | none => false

def memN (i : Nat) : List Nat → Bool
  | [] => false
  | j :: r => Nat.beq j i || memN i r
theorem memN_iff {i : Nat} : ∀ {l : List Nat}, memN i l = true ↔ i ∈ l
  | [] => by simp [memN]
  | j :: r => by
    simp only [memN, Bool.or_eq_true, memN_iff, List.mem_cons]
    constructor
    · rintro (h | h)
      · exact .inl (Nat.eq_of_beq_eq_true h).symm
      · exact .inr h
    · rintro (h | h)
      · exact .inl (by subst h; simp)
      · exact .inr h

section
variable (md : Region.Mode) (ops : Array Oper)
def stepB (T : List Nat) (listed : Array Bool) (i : Nat) : Bool := (Region.ready md ops listed).contains i && Region.free md ops listed i && !memN i T
def planA (T : List Nat) : List Nat → Array Bool → (Array Bool → Bool) → Bool
  | [], l, k => k l
  | i :: r, l, k => stepB md ops T l i && isMove ops i && planA T r (l.setIfInBounds i true) k
def planQ (T : List Nat) : List Nat → Array Bool → (Array Bool → Bool) → Bool
  | [], l, k => k l
  | i :: r, l, k => stepB md ops T l i && planQ T r (l.setIfInBounds i true) k
def seqL : List Nat → Array Bool → Bool
  | [], l => (Region.ready md ops l).isEmpty
  | i :: r, l => decide (Region.ready md ops l = [i]) && seqL r (l.setIfInBounds i true)
def sinkL (t : Nat) : List Nat → Bool
  | [] => true
  | i :: r => (Region.waitsFor md ops t i || r.any fun j => Region.waitsFor md ops j i) && sinkL t r
def chainL : List Nat → Bool
  | a :: b :: r => Region.waitsFor md ops b a && chainL (b :: r)
  | _ => true
def headOf : List Nat → Nat
  | t :: _ => t
  | [] => 0
def planB (A B T : List Nat) : Bool :=
  Region.noSelect ops && Nat.beq (A.length + B.length + T.length) ops.size && !T.isEmpty && T.all (fun t => Nat.blt t ops.size) && sinkL md ops (headOf T) B && chainL md ops T &&
  planA md ops T A (Array.replicate ops.size false) fun l => planQ md ops T B l fun l => seqL md ops T l
end

section
variable {P : Program} {ops : Array Oper} {md : Region.Mode} {Q : Exit → Act → World → Prop} {T : List Nat}

structure Inv (md : Region.Mode) (ops : Array Oper) (T : List Nat) (listed : Array Bool) : Prop where
  size : listed.size = ops.size
  closed : ∀ j oj, ops[j]? = some oj → listed.getD j false = true → ∀ e ∈ oj.after, Region.binds md e = true → listed.getD e.on false = true
  tail : ∀ t ∈ T, listed.getD t false = false

theorem Inv.set {i : Nat} {listed : Array Bool} (inv : Inv md ops T listed) (hi : i ∈ Region.ready md ops listed) (hin : i ∉ T) : Inv md ops T (listed.setIfInBounds i true) := by
  obtain ⟨_, oi, hoi, hall⟩ := mem_ready.1 hi
  refine ⟨by simp [inv.size], fun j oj hj hl e he hb => ?_, fun t ht => by rw [getD_set_ne false (by rintro rfl; exact hin ht)]; exact inv.tail t ht⟩
  by_cases hij : i = j
  · subst hij
    have : oj = oi := Option.some.inj (hj.symm.trans hoi)
    subst this
    exact getD_set_true (hall e he hb)
  · rw [getD_set_ne false hij] at hl
    exact getD_set_true (inv.closed j oj hj hl e he hb)

theorem ready_pred {t i : Nat} {listed : Array Bool} (ht : t ∈ Region.ready md ops listed) (hw : Region.waitsFor md ops t i = true) : listed.getD i false = true := by
  obtain ⟨_, ot, hot, hall⟩ := mem_ready.1 ht
  obtain ⟨o', ho', e, he, hb, hon⟩ := Region.waitsFor_spec hw
  obtain rfl : o' = ot := Option.some.inj (ho'.symm.trans hot)
  rw [← hon]
  exact hall e he hb
theorem listed_pred {t i : Nat} {listed : Array Bool} (inv : Inv md ops T listed) (ht : listed.getD t false = true) (hw : Region.waitsFor md ops t i = true) : listed.getD i false = true := by
  obtain ⟨o', ho', e, he, hb, hon⟩ := Region.waitsFor_spec hw
  rw [← hon]
  exact inv.closed t o' ho' ht e he hb

theorem sink_listed {t : Nat} {listed : Array Bool} (inv : Inv md ops T listed) (ht : t ∈ Region.ready md ops listed) : ∀ {B : List Nat}, sinkL md ops t B = true → ∀ i ∈ B, listed.getD i false = true
  | b :: r, h, i, hi => by
    simp only [sinkL, Bool.and_eq_true, Bool.or_eq_true, List.any_eq_true] at h
    have ih := sink_listed inv ht h.2
    rcases List.mem_cons.1 hi with rfl | hi
    · rcases h.1 with h1 | ⟨j, hj, hw⟩
      · exact ready_pred ht h1
      · exact listed_pred inv (ih j hj) hw
    · exact ih i hi
  | [], _, _, hi => by cases hi

theorem chain_not {listed : Array Bool} (inv : Inv md ops T listed) : ∀ {S : List Nat}, (∀ t ∈ S, t ∈ T) → chainL md ops S = true → ∀ t ∈ S, t ∈ Region.ready md ops listed → t = headOf S
  | [], _, _, t, ht, _ => by cases ht
  | [a], _, _, t, ht, _ => by simpa [headOf] using ht
  | a :: b :: r, hS, h, t, ht, hr => by
    simp only [chainL, Bool.and_eq_true] at h
    rcases List.mem_cons.1 ht with rfl | ht
    · rfl
    · have h1 := chain_not inv (fun t ht => hS t (List.mem_cons_of_mem _ ht)) h.2 t ht hr
      simp only [headOf] at h1
      subst h1
      have := ready_pred hr h.1
      rw [inv.tail a (hS a (by simp))] at this
      cases this

theorem tail_not {listed : Array Bool} {B : List Nat} (inv : Inv md ops T listed) (hs : sinkL md ops (headOf T) B = true) (hc : chainL md ops T = true) {i : Nat} (hi : i ∈ B) (hun : listed.getD i true = false) {j : Nat} (hj : j ∈ Region.ready md ops listed) : j ∉ T := by
  intro hjT
  have := chain_not inv (fun _ h => h) hc j hjT hj
  subst this
  have := sink_listed inv hj hs i hi
  rw [getD_both hun] at this
  cases this

variable {C : World → Prop}
/-- The reading phase: f operations more, none of T, come up. -/
def wpAnyB (P : Program) (md : Region.Mode) (ops : Array Oper) (C : World → Prop) (T : List Nat) (L : Array Bool → Act → Prop) : Nat → Array Bool → Act → Prop
  | 0, listed, a => L listed a
  | f + 1, listed, a =>
    Region.ready md ops listed ≠ [] ∧ ∀ i ∈ Region.ready md ops listed, i ∉ T ∧ qOp P ops C i (wpAnyB P md ops C T L f (listed.setIfInBounds i true)) a

theorem wpAny_of_B {g : Nat} {L : Array Bool → Act → Prop} (hL : ∀ listed a w, C w → L listed a → wpAny P md ops Q g listed a w) :
    ∀ (f : Nat) (listed : Array Bool) (a : Act) (w : World), C w → wpAnyB P md ops C T L f listed a → wpAny P md ops Q (f + g) listed a w
  | 0, listed, a, w, hw, h => by rw [Nat.zero_add]; exact hL _ _ _ hw h
  | f + 1, listed, a, w, hw, h => by
    rw [show f + 1 + g = (f + g) + 1 by omega]
    exact ⟨fun h0 => absurd h0 h.1, fun i hi => wpOp_of_qOp hw (fun a' w' hw' h' => wpAny_of_B hL f _ a' w' hw' h') (h.2 i hi).2⟩

theorem wpAnyB_first {B : List Nat} {i : Nat} {oi : Oper} {v : Value} {L : Array Bool → Act → Prop} (hi : ops[i]? = some oi) (hsel : ∀ (j : Nat) (o : Oper) cs b, ops[j]? = some o → o.op ≠ .select cs b)
    (hs : sinkL md ops (headOf T) B = true) (hc : chainL md ops T = true) (hin : i ∈ B)
    (hdone : ∀ listed a, L listed a → ∀ j ∈ Region.ready md ops listed, j ∈ T) :
    ∀ (f : Nat) (listed : Array Bool) (a : Act), Inv md ops T listed →
      (∀ j oj, ops[j]? = some oj → j ≠ i → listed.getD j true = false → (∀ e ∈ oj.after, Region.binds md e = true → e.on ≠ i) → oi.apart ops oj = true) →
      i ∈ Region.ready md ops listed → YieldsIn P ops C oi v a →
      wpAnyB P md ops C T L f (listed.setIfInBounds i true) (a.put oi.dst v) → wpAnyB P md ops C T L (f + 1) listed a := by
  intro f
  induction f with
  | zero =>
    intro listed a inv _ hr hy H
    have hun := (mem_ready.1 hr).1
    refine ⟨fun h => (by rw [h] at hr; cases hr), fun j hj => ?_⟩
    have hjn := tail_not inv hs hc hin hun hj
    refine ⟨hjn, ?_⟩
    by_cases hji : j = i
    · subst hji; exact hy.qOp hi H
    · exact absurd (hdone _ _ H j (ready_mono hj hji)) hjn
  | succ f ih =>
    intro listed a inv hfree hr hy H
    have hun := (mem_ready.1 hr).1
    refine ⟨fun h => (by rw [h] at hr; cases hr), fun j hj => ?_⟩
    have hjn := tail_not inv hs hc hin hun hj
    refine ⟨hjn, ?_⟩
    by_cases hji : j = i
    · subst hji; exact hy.qOp hi H
    · have h1 := (H.2 j (ready_mono hj hji)).2
      obtain ⟨hjun, oj, hoj, hall⟩ := mem_ready.1 hj
      have hnot : ∀ e ∈ oj.after, Region.binds md e = true → e.on ≠ i := fun e he hb heq => by
        have h1 := hall e he hb
        rw [heq, getD_both hun] at h1
        cases h1
      have h2 := qOp_put hoj (hfree j oj hoj hji hjun hnot) (fun cs b => hsel i oi cs b hi) (fun cs b => hsel j oj cs b hoj) hy h1
      have hfree' : ∀ k ok, ops[k]? = some ok → k ≠ i → (listed.setIfInBounds j true).getD k true = false →
          (∀ e ∈ ok.after, Region.binds md e = true → e.on ≠ i) → oi.apart ops ok = true := fun k ok hk hki hun hno => by
        refine hfree k ok hk hki ?_ hno
        by_cases hjk : j = k
        · subst hjk; exact hjun
        · rw [getD_set_ne true hjk] at hun; exact hun
      refine qOp_mono (fun a' h3 => ih (listed.setIfInBounds j true) a' (inv.set hj hjn) hfree' (ready_mono hr (Ne.symm hji)) h3.1 ?_) h2
      rw [Array.setIfInBounds_comm _ _ hji]
      exact h3.2

theorem pick_cons {l : List Oper} {i : Nat} {o : Oper} {r : List Nat} (h : l[i]? = some o) : pickL l (i :: r) = o :: pickL l r := by simp [pickL, h]

theorem stepB_some {listed : Array Bool} {i : Nat} (h : stepB md ops T listed i = true) : ∃ o, ops[i]? = some o ∧ i ∈ Region.ready md ops listed ∧ Region.free md ops listed i = true ∧ i ∉ T := by
  simp only [stepB, Bool.and_eq_true, Bool.not_eq_true'] at h
  have hr : i ∈ Region.ready md ops listed := by simpa using h.1.1
  obtain ⟨_, o, ho, _⟩ := mem_ready.1 hr
  exact ⟨o, ho, hr, h.1.2, fun hm => by rw [memN_iff.2 hm] at h; exact absurd h.2 (by simp)⟩

theorem planQ_sound (hs : Region.noSelect ops = true) {B0 : List Nat} (hsk : sinkL md ops (headOf T) B0 = true) (hc : chainL md ops T = true) {Lq : Act → Prop} :
    ∀ (B : List Nat) (listed : Array Bool) (a : Act), (∀ i ∈ B, i ∈ B0) → Inv md ops T listed → planQ md ops T B listed (fun l => seqL md ops T l) = true →
      wpQuiet P ops C Lq (pickL ops.toList B) a → wpAnyB P md ops C T (fun l a' => seqL md ops T l = true ∧ Lq a') B.length listed a
  | [], listed, a, _, inv, hp, h => ⟨hp, h⟩
  | i :: r, listed, a, hB, inv, hp, h => by
    simp only [planQ, Bool.and_eq_true] at hp
    obtain ⟨o, ho, hr, hf, hiT⟩ := stepB_some hp.1
    rw [pick_cons (by simpa using ho)] at h
    have hst : qOp P ops C i (wpQuiet P ops C Lq (pickL ops.toList r)) a := by unfold qOp; simp only [ho]; exact h
    obtain ⟨v, hy, hK⟩ := yieldsIn_of_qOp ho hst
    refine wpAnyB_first ho (Region.noSelect_spec hs) hsk hc (hB i (by simp)) ?_ r.length listed a inv (Region.free_spec ho hf) hr hy
      (planQ_sound hs hsk hc r _ _ (fun j hj => hB j (List.mem_cons_of_mem _ hj)) (inv.set hr hiT) hp.2 hK)
    rintro l a' ⟨hl, _⟩ j hj
    cases hT : T with
    | nil => rw [hT] at hl; simp only [seqL, List.isEmpty_iff] at hl; rw [hl] at hj; cases hj
    | cons t T' =>
      rw [hT] at hl
      simp only [seqL, Bool.and_eq_true, decide_eq_true_eq] at hl
      rw [hl.1] at hj
      simpa using .inl (List.mem_singleton.1 hj)

theorem seqL_sound : ∀ (T : List Nat) (listed : Array Bool) (a : Act) (w : World), (∀ t ∈ T, t < ops.size) → seqL md ops T listed = true → wpList P ops Q (pickL ops.toList T) a w → wpAny P md ops Q T.length listed a w
  | [], listed, a, w, _, hB, h => ⟨by simpa [seqL] using hB, h⟩
  | i :: r, listed, a, w, hlt, hB, h => by
    simp only [seqL, Bool.and_eq_true, decide_eq_true_eq] at hB
    have hi := hlt i (by simp)
    have ho : ops[i]? = some ops[i] := by simp [hi]
    rw [pick_cons (o := ops[i]) (by simp [hi])] at h
    refine ⟨fun h1 => (by rw [hB.1] at h1; cases h1), fun k hk => ?_⟩
    rw [hB.1] at hk
    obtain rfl := List.mem_singleton.1 hk
    have hw : wpOp P ops Q k (wpList P ops Q (pickL ops.toList r)) a w := by unfold wpOp; simp only [ho]; exact h
    exact wpOp_mono (fun a' w' h' => seqL_sound r _ a' w' (fun t ht => hlt t (List.mem_cons_of_mem _ ht)) hB.2 h') hw

theorem planA_sound (hs : Region.noSelect ops = true) (hQ : ∀ c a w, ¬ Q (.panic c) a w) {Lq : List Oper → Act → Prop} {f : Nat} {k : Array Bool → Bool} {w : World} (hw : C w)
    (hk : ∀ listed a, Inv md ops T listed → k listed = true → Lq [] a → wpAny P md ops Q f listed a w)
    (hcons : ∀ o l a, Lq (o :: l) a → if Region.wanted o (yielded ops a.tmps) then o.quiet P a C (Lq l) else Lq l (a.put o.dst undef)) :
    ∀ (A : List Nat) (listed : Array Bool) (a : Act), Inv md ops T listed → planA md ops T A listed k = true → Lq (pickL ops.toList A) a → wpAny P md ops Q (A.length + f) listed a w
  | [], listed, a, inv, hp, h => by rw [List.length_nil, Nat.zero_add]; exact hk _ _ inv hp h
  | i :: r, listed, a, inv, hp, h => by
    simp only [planA, Bool.and_eq_true] at hp
    obtain ⟨⟨hp1, hm⟩, hp2⟩ := hp
    obtain ⟨o, ho, hr, hf, hiT⟩ := stepB_some hp1
    rw [pick_cons (by simpa using ho)] at h
    rw [show (i :: r).length + f = (r.length + f) + 1 by simp; omega]
    have hc := hcons _ _ _ h
    simp only [isMove, ho] at hm
    have hgo : ∀ x : Operand, o.guard = none → (∀ w', (execOp a.eval o).run P w' = .ok (.value (a.eval x)) w') → wpAny P md ops Q (r.length + f + 1) listed a w := fun x hg hv => by
      have hwt : Region.wanted o (yielded ops a.tmps) = true := by simp [Region.wanted, hg]
      rw [if_pos hwt] at hc
      obtain ⟨v, h1, h2⟩ := hc
      have h3 := h1 w hw
      unfold Oper.quietAt at h3
      rw [hv] at h3
      obtain ⟨_, rfl⟩ := h3
      exact wpAny_take ho hs hf (by simpa using hr) (fun c a w hq => absurd hq (hQ c _ w)) (.inl ⟨hwt, hv⟩) (planA_sound hs hQ hw hk hcons r _ _ (inv.set hr hiT) hp2 h2)
    split at hm
    · rename_i x hg hop
      exact hgo x hg fun w' => by unfold execOp; rw [hop]; rfl
    · rename_i x hg hop
      exact hgo x hg fun w' => by unfold execOp; rw [hop]; rfl
    · cases hm

/-- **A statement that draws its order and writes.** -/
theorem wp_region_plan {id : Nat} {a : Act} {w : World} {A B T : List Nat} (hm : P.follows .mixedOrders = true) (hp : planB .any ops A B T = true) (hQ : ∀ c a w, ¬ Q (.panic c) a w) (hC : C { w with drawn := w.drawn + 1 })
    (h : wpQuiet P ops C (fun a' => ∀ w', C w' → wpList P ops Q (pickL ops.toList T) a' w') (pickL ops.toList A ++ pickL ops.toList B) a) : (Code.region id ops true).wp P Q a w := by
  simp only [planB, Bool.and_eq_true] at hp
  obtain ⟨⟨⟨⟨⟨⟨hs, hsz⟩, hT⟩, hTl⟩, hsk⟩, hch⟩, hpl⟩ := hp
  refine wp_region_any hm ?_
  have inv0 : Inv .any ops T (Array.replicate ops.size false) := ⟨by simp, fun j oj _ hl => (by rw [getD_replicate_false] at hl; cases hl), fun t _ => getD_replicate_false _ _⟩
  have hsz := Nat.eq_of_beq_eq_true hsz
  have e : A.length + (B.length + T.length) = ops.size := by omega
  have key : wpAny P .any ops Q (A.length + (B.length + T.length)) (Array.replicate ops.size false) a { w with drawn := w.drawn + 1 } := ?_
  · rw [e] at key; exact key
  refine planA_sound (C := C) (T := T) (Lq := fun l a => wpQuiet P ops C (fun a' => ∀ w', C w' → wpList P ops Q (pickL ops.toList T) a' w') (l ++ pickL ops.toList B) a) hs hQ hC
    (fun listed a inv hk hl => ?_) (fun o l a hl => hl) A _ a inv0 hpl h
  have hB := planQ_sound (md := .any) hs hsk hch B listed a (fun i hi => hi) inv hk (by simpa using hl)
  refine wpAny_of_B (g := T.length) (fun l a' w' hw' hL => seqL_sound T l a' w' (fun t ht => ?_) hL.1 (hL.2 w' hw')) _ _ _ _ hC hB
  have := List.all_eq_true.1 hTl t ht
  simpa using this
end

theorem den_panic {C : Ctx} {Q : Exit → Act → World → Prop} (hQ : ∀ c a w, ¬ Q (.panic c) a w) : ∀ (K : List Item) (c : _) (a : Act) (w : World), ¬ den C Q K (.panic c) a w
  | [], c, a, w, h => hQ c a w h
  | .code _ :: K, c, a, w, h => den_panic hQ K c a w h
  | .ops _ _ :: K, c, a, w, h => den_panic hQ K c a w h
  | .blk _ :: K, c, a, w, h => den_panic hQ K c a w h
  | .back _ :: K, c, a, w, h => den_panic hQ K c a w h

def NoPanic (Φ : Exit → St → Prop) : Prop := ∀ c s, ¬ Φ (.panic c) s
theorem Ret.noPanic {g : Cfg} {rs : List ResultVar} {ids : List Nat} {r : V} {H' : List Ch} : NoPanic (Ret g rs ids r H') := fun c s h => by
  rcases h.1 with h | h <;> cases h

theorem app_nil_nil {α : Type} (l : List α) : app2 ([] : List α) l = l := rfl

def app3 {α : Type} : List α → List α → List α
  | [], l => l
  | a :: r, l => a :: app3 r l
theorem app3_eq {α : Type} (a b : List α) : app3 a b = a ++ b := by induction a with
  | nil => rfl
  | cons x a ih => simp [app3, ih]

namespace Cx
variable {P : Pg} {g : Cfg} {C : Ctx} (x : Cx P g C) {s s' : St} {K K' : List Item} {Φ : Exit → St → Prop} {ob : List Prop}
include x
theorem plan (A B T : List Nat) {id : Nat} {ops : Array Oper} (h : run g 1000 K s [] = .code ob (.region id ops true) K' s') (ho : AllP ob) (hm : P.P.follows .mixedOrders = true) (hB : planB .any ops A B T = true) (hΦ : NoPanic Φ)
    (k : QGo C ops (pickL ops.toList (app3 A B)) s' (.ops ops (pickL ops.toList T) :: K') Φ) : Go C K s Φ := by
  refine st x.ty x.n x.fix h ⟨ho, ?_⟩
  rintro a w ⟨ρ, F, hs⟩
  have hd : Mod none w { w with drawn := w.drawn + 1 } := ⟨rfl, rfl, rfl, Nat.le_refl _, fun _ _ _ => rfl⟩
  have hpk : pickL ops.toList (app3 A B) = pickL ops.toList A ++ pickL ops.toList B := by
    rw [app3_eq]
    clear k hB
    induction A with
    | nil => rfl
    | cons i r ih =>
      simp only [List.cons_append, pickL]
      split <;> simp [ih]
  rw [hpk] at k
  show Code.wp C.P (.region id ops true) (den C (conc C Φ) K') a w
  exact wp_region_plan (C := Mod none w) (x.progP.symm ▸ hm) hB (den_panic (fun c a w ⟨s, _, hh⟩ => hΦ c s hh) K') hd (k a w ρ F hs)
end Cx
end Go.Sx
