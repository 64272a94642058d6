/- Texts put together: Sx45, Sx46, Sx47. -/
import Derived.Test.YtikkppdihepmdaaDoorSxF

/-
  Sx, part 45: drawn statements, by all their orders.
-/
set_option linter.unusedVariables false
set_option linter.unusedSimpArgs false
namespace Go.Sx

/-- The orders of a statement: which operation comes, what comes behind it, or which comes in its place. -/
inductive Ords where
  | leaf
  | no
  | fork (i : Nat) (here others : Ords)
def Ords.firsts : Ords → List Nat
  | .fork i _ b => i :: b.firsts
  | _ => []
def Ords.depth : Ords → Nat
  | .fork _ a b => max (a.depth + 1) b.depth
  | _ => 0
def Ords.top (ops : Array Oper) (t : Ords) (l : Array Bool) : Bool := match t with
  | .leaf => true
  | .no => false
  | t => decide (t.firsts = Region.ready .any ops l)
def Ords.chk (ops : Array Oper) : Ords → Array Bool → Bool
  | .leaf, l => (Region.ready .any ops l).isEmpty
  | .no, _ => true
  | .fork i a b, l => a.chk ops (l.setIfInBounds i true) && a.top ops (l.setIfInBounds i true) && b.chk ops l
def EvT (C : Ctx) (ops : Array Oper) (J : St → Prop) : Ords → St → Prop
  | .leaf, s => J s
  | .no, _ => True
  | .fork i a b, s => Go C [.ops ops (pickL ops.toList [i]), .back (EvT C ops J a)] s (fun _ _ => False) ∧ EvT C ops J b s

section
variable {C : Ctx} {ops : Array Oper} {J : St → Prop} {Q : Exit → Act → World → Prop}
/-- One of the first ones. -/
theorem EvT.pick {t : Ords} {s : St} {l : Array Bool} (h : EvT C ops J t s) (hc : t.chk ops l = true) {i : Nat} (hi : i ∈ t.firsts) :
    ∃ a, a.chk ops (l.setIfInBounds i true) = true ∧ a.top ops (l.setIfInBounds i true) = true ∧ a.depth + 1 ≤ t.depth ∧ Go C [.ops ops (pickL ops.toList [i]), .back (EvT C ops J a)] s (fun _ _ => False) := by
  induction t with
  | leaf => cases hi
  | no => cases hi
  | fork j a b _ ih =>
    simp only [Ords.chk, Bool.and_eq_true] at hc
    obtain ⟨⟨h2, h3⟩, h4⟩ := hc
    rcases List.mem_cons.1 hi with e | hi
    · subst e; exact ⟨a, h2, h3, Nat.le_max_left _ _, h.1⟩
    · obtain ⟨c, c1, c2, c3, c4⟩ := ih h.2 h4 hi
      exact ⟨c, c1, c2, Nat.le_trans c3 (Nat.le_max_right _ _), c4⟩

theorem EvT.sound (hJ : ∀ s a w, Sat C s a w → J s → Q .normal a w) : ∀ (n : Nat) (t : Ords) (l : Array Bool) (s : St) (a : Act) (w : World), t.chk ops l = true → t.top ops l = true → EvT C ops J t s → Sat C s a w → t.depth ≤ n → wpAny C.P .any ops Q n l a w
  | n, .leaf, l, s, a, w, hc, _, ht, hs, _ => by
    have hr : Region.ready .any ops l = [] := by simpa [Ords.chk] using hc
    cases n with
    | zero => exact ⟨hr, hJ s a w hs ht⟩
    | succ n => exact ⟨fun _ => hJ s a w hs ht, fun i hi => by rw [hr] at hi; cases hi⟩
  | n, .no, l, s, a, w, _, htop, _, _, _ => by simp [Ords.top] at htop
  | 0, .fork i x y, l, s, a, w, _, _, _, _, hd => by
    have : x.depth + 1 ≤ (Ords.fork i x y).depth := Nat.le_max_left _ _
    omega
  | n + 1, .fork i x y, l, s, a, w, hc, htop, ht, hs, hd => by
    have hr : (Ords.fork i x y).firsts = Region.ready .any ops l := by simpa [Ords.top] using htop
    refine ⟨fun h => (by rw [← hr] at h; cases h), fun j hj => ?_⟩
    rw [← hr] at hj
    obtain ⟨b, b1, b2, b4, b3⟩ := ht.pick hc hj
    refine one_op b3 hs (fun s1 a1 w1 h1 hj1 => EvT.sound hJ n b _ s1 a1 w1 b1 b2 hj1 h1 (by omega)) (fun _ _ _ _ _ h => h.elim) (fun _ h => h.elim)
end

/-- **A statement that draws its order, by each of its orders**: all come to one state. -/
theorem Cx.every {P : Pg} {g : Cfg} {C : Ctx} (x : Cx P g C) {s s' : St} {K K' : List Item} {Φ : Exit → St → Prop} {ob : List Prop} (t : Ords) (s2 : St) {id : Nat} {ops : Array Oper} (h : run g 1000 K s [] = .code ob (.region id ops true) K' s') (ho : AllP ob) (hm : P.P.follows .mixedOrders = true)
    (hc : (t.chk ops (Array.replicate ops.size false) && t.top ops (Array.replicate ops.size false) && Nat.ble t.depth ops.size) = true) (he : EvT C ops (fun s => LE g.fix s s2) t s') (k : Go C K' s2 Φ) : Go C K s Φ := by
  refine st x.ty x.n x.fix h ⟨ho, ?_⟩
  rintro a w ⟨ρ, F, hs⟩
  have hd : Mod none w { w with drawn := w.drawn + 1 } := ⟨rfl, rfl, rfl, Nat.le_refl _, fun _ _ _ => rfl⟩
  have hs1 := hs.mod hd
  simp only [Bool.and_eq_true] at hc
  obtain ⟨⟨h1, h2⟩, h3⟩ := hc
  have hP : C.P.follows .mixedOrders = true := x.progP.symm ▸ hm
  show Code.wp C.P (.region id ops true) (den C (conc C Φ) K') a w
  exact wp_region_any hP (EvT.sound (fun s a w hs hj => k a w (LE.sat (x.fix ▸ hj) hs)) ops.size t _ s' a _ h1 h2 he ⟨ρ, F, hs1⟩ (by simpa using h3))
end Go.Sx

/-
  Sx, part 46: what is owned is data where the function ends; a stack is cut.
-/
set_option linter.unusedVariables false
set_option linter.unusedSimpArgs false
namespace Go.Sx
section
variable {P : Program} {Q Q' : Exit → Act → World → Prop}
theorem LetsOut.mono (h : ∀ e a w, Q e a w → Q' e a w) : LetsOut Q → LetsOut Q' := fun ⟨a, w, hq⟩ => ⟨a, w, h _ a w hq⟩
theorem Oper.upon_mono2 {o : Oper} {a : Act} {K K' : Act → World → Prop} (hK : ∀ a w, K a w → K' a w) (h : ∀ e a w, Q e a w → Q' e a w) : ∀ {r : Result Next}, o.upon P a K Q r → o.upon P a K' Q' r := by
  intro r hr
  cases r with
  | ok n w' =>
    cases n <;> simp only [Oper.upon] at hr ⊢ <;>
      first
        | exact hK _ _ hr
        | exact Calls.mono hr (fun e w'' he => by
            cases e with
            | returned v => exact hK _ _ he
            | panicked c => exact h _ _ _ he
            | outgrown => exact LetsOut.mono h he)
        | exact Rows.mono hr (fun _ _ he => hK _ _ he)
  | halt x w' =>
    cases x <;> simp only [Oper.upon] at hr ⊢
    exact h _ _ _ hr
theorem wpList_mono {ops : Array Oper} (h : ∀ e a w, Q e a w → Q' e a w) : ∀ {l : List Oper} {a : Act} {w : World}, wpList P ops Q l a w → wpList P ops Q' l a w
  | [], a, w, hl => h _ a w hl
  | o :: r, a, w, hl => by
    unfold wpList at hl ⊢
    split
    · rename_i hw
      rw [if_pos hw] at hl
      rcases hl with hl | hl
      · exact .inl (Oper.upon_mono2 (fun a w hh => wpList_mono h hh) h hl)
      · exact .inr ⟨hl.1, LetsOut.mono h hl.2⟩
    · rename_i hw
      rw [if_neg hw] at hl
      exact wpList_mono h hl
end
section
variable {C : Ctx} {s : St} {K : List Item} {Φ Φ' : Exit → St → Prop}

theorem den_mono {Q Q' : Exit → Act → World → Prop} (h : ∀ e a w, Q e a w → Q' e a w) : ∀ (K : List Item) (e : Exit) (a : Act) (w : World), den C Q K e a w → den C Q' K e a w
  | [], e, a, w, hd => h e a w hd
  | .code c :: K, e, a, w, hd => by
    cases e with
    | normal => exact wp_mono hd fun e a w hq => den_mono h K e a w hq
    | _ => exact den_mono h K _ a w hd
  | .ops all l :: K, e, a, w, hd => by
    cases e with
    | normal => exact wpList_mono (fun e a w hq => den_mono h K e a w hq) hd
    | _ => exact den_mono h K _ a w hd
  | .blk id :: K, e, a, w, hd => by
    cases e with
    | exit i =>
      simp only [den, Exit.inBlock] at hd ⊢
      split
      · rename_i hi; rw [if_pos hi] at hd; exact den_mono h K _ a w hd
      · rename_i hi; rw [if_neg hi] at hd; exact den_mono h K _ a w hd
    | _ => exact den_mono h K _ a w hd
  | .back J :: K, e, a, w, hd => by
    cases e with
    | normal => exact hd
    | _ => exact den_mono h K _ a w hd

/-- Ends may be weakened. -/
theorem Go.relax (h : ∀ e s a w, Φ' e s → Sat C s a w → ∃ s2, Sat C s2 a w ∧ Φ e s2) (k : Go C K s Φ') : Go C K s Φ := fun a w hs =>
  den_mono (fun e a w ⟨s1, h1, h2⟩ => h e s1 a w h2 h1) K _ a w (k a w hs)

theorem Sat.frozen {a : Act} {w : World} (h : Sat C s a w) (id : Nat) : Sat C (frozen s id) a w := by
  have : Go C [] s (fun _ s' => s' = Sx.frozen s id) := Go.freeze id fun a w hs => ⟨_, hs, rfl⟩
  obtain ⟨s', h1, rfl⟩ := this a w h
  exact h1
def freezes : List Nat → St → St
  | [], s => s
  | id :: r, s => freezes r (frozen s id)
theorem Sat.freezes {a : Act} {w : World} : ∀ (ids : List Nat) {s : St}, Sat C s a w → Sat C (freezes ids s) a w
  | [], _, h => h
  | id :: r, _, h => (h.frozen id).freezes r

/-- Where the function ends, these owned slices are data. -/
theorem Go.atExit (ids : List Nat) (k : Go C K s fun e s => Φ e (freezes ids s)) : Go C K s Φ :=
  Go.relax (fun e s a w hp hs => ⟨_, hs.freezes ids, hp⟩) k

/-- A nil slice in a box is one of no elements. -/
def nilB (id j z : Nat) (f : Nat → List D) (s : St) : St :=
  match get s.H id with
  | some (.box us) => match us[j]? with
    | some .nils => ⟨s.L, (id, .box (us.set j (.d (.sl z 0 f)))) :: delH id s.H, s.m⟩
    | _ => s
  | _ => s
theorem All2.setL {α β : Type} {R : α → β → Prop} {a : α} : ∀ {as : List α} {bs : List β} {j : Nat}, All2 R as bs → (∀ b, bs[j]? = some b → R a b) → All2 R (as.set j a) bs
  | [], [], _, _, _ => trivial
  | _ :: _, _ :: _, 0, ⟨_, h⟩, e => ⟨e _ rfl, h⟩
  | _ :: _, _ :: _, _ + 1, ⟨h0, h⟩, e => ⟨h0, All2.setL h fun b hb => e b (by simpa using hb)⟩
  | [], _ :: _, _, h, _ => h.elim
  | _ :: _, [], _, h, _ => h.elim
theorem Sat.nilB {a : Act} {w : World} {id j z : Nat} {f : Nat → List D} (h : Sat C s a w) : Sat C (nilB id j z f s) a w := by
  obtain ⟨ρ, F, h⟩ := h
  unfold Sx.nilB
  split
  · rename_i us hg
    split
    · rename_i hu
      have hm := get_mem hg
      obtain ⟨b, cs, T, h1, h2, h3⟩ := h.ch id _ hm
      refine ⟨ρ, F, h.touch (c' := .box (us.set j (.d (.sl z 0 f)))) hm (w' := w) ⟨rfl, rfl, rfl, Nat.le_refl _, fun _ _ _ => rfl⟩ ⟨b, cs, T, h1, h2, h3.setL fun c hc => ?_⟩ ?_⟩
      · obtain ⟨c', c1, c2⟩ := h3.get hu
        rw [hc] at c1
        obtain rfl := Option.some.inj c1
        rw [show c = .slice none 0 0 from c2]
        exact RD.emp _ _ _ _
      · have := (h.freshH id _ hm).2
        simp only [Ch.all, List.all_eq_true] at this ⊢
        intro v hv
        rcases List.mem_or_eq_of_mem_set hv with hv | rfl
        · exact this v hv
        · rfl
    · exact ⟨ρ, F, h⟩
  · exact ⟨ρ, F, h⟩
/-- Where the function ends, this nil slice in a box is data. -/
theorem Go.atExitN (id j z : Nat) (f : Nat → List D) (k : Go C K s fun e s => Φ e (Sx.nilB id j z f s)) : Go C K s Φ :=
  Go.relax (fun e s a w hp hs => ⟨_, hs.nilB, hp⟩) k

theorem den_split {J : St → Prop} {Q : Exit → Act → World → Prop} {K2 : List Item} (hJ : ∀ s a w, Sat C s a w → J s → den C Q K2 .normal a w) : ∀ (K1 : List Item) (e : Exit) (a : Act) (w : World), den C (conc C fun _ _ => False) (K1 ++ [.back J]) e a w → den C Q (K1 ++ K2) e a w
  | [], e, a, w, hd => by
    cases e with
    | normal => obtain ⟨s, h1, h2⟩ := hd; exact hJ s a w h1 h2
    | _ => obtain ⟨_, _, h⟩ := hd; exact h.elim
  | .code c :: K, e, a, w, hd => by
    cases e with
    | normal => exact wp_mono hd fun e a w hq => den_split hJ K e a w hq
    | _ => exact den_split hJ K _ a w hd
  | .ops all l :: K, e, a, w, hd => by
    cases e with
    | normal => exact wpList_mono (fun e a w hq => den_split hJ K e a w hq) hd
    | _ => exact den_split hJ K _ a w hd
  | .blk id :: K, e, a, w, hd => by
    cases e with
    | exit i =>
      simp only [List.cons_append, den, Exit.inBlock] at hd ⊢
      split
      · rename_i hi; rw [if_pos hi] at hd; exact den_split hJ K _ a w hd
      · rename_i hi; rw [if_neg hi] at hd; exact den_split hJ K _ a w hd
    | _ => exact den_split hJ K _ a w hd
  | .back J' :: K, e, a, w, hd => by
    cases e with
    | normal => exact hd
    | _ => exact den_split hJ K _ a w hd
def takeK : Nat → List Item → List Item
  | 0, _ => []
  | _ + 1, [] => []
  | n + 1, i :: K => i :: takeK n K
def dropK : Nat → List Item → List Item
  | 0, K => K
  | _ + 1, [] => []
  | n + 1, _ :: K => dropK n K
theorem take_dropK : ∀ (n : Nat) (K : List Item), takeK n K ++ dropK n K = K
  | 0, K => rfl
  | _ + 1, [] => rfl
  | n + 1, i :: K => by simp only [takeK, dropK, List.cons_append, take_dropK n K]
def endK (J : St → Prop) : List Item → List Item
  | [] => [.back J]
  | i :: K => i :: endK J K
theorem endK_eq {J : St → Prop} : ∀ K : List Item, endK J K = K ++ [.back J]
  | [] => rfl
  | i :: K => by simp only [endK, List.cons_append, endK_eq K]

/-- The first n items; then the others, from whatever state. -/
theorem Go.split (n : Nat) (k : Go C (endK (fun s => Go C (dropK n K) s Φ) (takeK n K)) s fun _ _ => False) : Go C K s Φ := by
  intro a w hs
  rw [← take_dropK n K]
  refine den_split (J := fun s => Go C (dropK n K) s Φ) (fun s a w h1 h2 => h2 a w h1) (takeK n K) _ a w ?_
  rw [← endK_eq]
  exact k a w hs
end
end Go.Sx

/-
  Sx, part 47: drawn statements: what only reads comes first; then all orders of the rest, up to the names of new chunks.
-/
set_option linter.unusedVariables false
set_option linter.unusedSimpArgs false
namespace Go.Sx

def permL (is : List Nat) : List (Nat × V) → List (Nat × V)
  | [] => []
  | (t, v) :: r => (t, v.map4 (ren0 is)) :: permL is r
def permH (is : List Nat) : List (Nat × Ch) → List (Nat × Ch)
  | [] => []
  | (i, c) :: r => (nth is i, c.map (ren0 is)) :: permH is r
/-- Other names for the chunks. -/
def permS (is : List Nat) (s : St) : St := ⟨permL is s.L, permH is s.H, s.m⟩
def allBelow : Nat → (Nat → Bool) → Bool
  | 0, _ => true
  | n + 1, p => p n && allBelow n p
theorem allBelow_spec {p : Nat → Bool} : ∀ {n : Nat}, allBelow n p = true → ∀ i, i < n → p i = true
  | n + 1, h, i, hi => by
    simp only [allBelow, Bool.and_eq_true] at h
    by_cases e : i = n
    · subst e; exact h.1
    · exact allBelow_spec h.2 i (by omega)
def okPerm (is : List Nat) (m fix : Nat) : Bool := Nat.beq is.length m && allBelow m (fun i => Nat.blt (nth is i) m && Nat.beq (nth is (nth is i)) i) && allBelow fix (fun i => Nat.beq (nth is i) i) && Nat.ble fix m

theorem mem_permL {is : List Nat} {t : Nat} {v' : V} : ∀ {L : List (Nat × V)}, (t, v') ∈ permL is L → ∃ v, (t, v) ∈ L ∧ v' = v.map4 (ren0 is)
  | (t', v) :: r, h => by
    rcases List.mem_cons.1 h with e | h
    · obtain ⟨rfl, rfl⟩ := Prod.mk.inj e; exact ⟨v, by simp, rfl⟩
    · obtain ⟨v, h1, h2⟩ := mem_permL h; exact ⟨v, by simp [h1], h2⟩
theorem mem_permH {is : List Nat} {i : Nat} {c' : Ch} : ∀ {H : List (Nat × Ch)}, (i, c') ∈ permH is H → ∃ j c, (j, c) ∈ H ∧ i = nth is j ∧ c' = c.map (ren0 is)
  | (j, c) :: r, h => by
    rcases List.mem_cons.1 h with e | h
    · obtain ⟨rfl, rfl⟩ := Prod.mk.inj e; exact ⟨j, c, by simp, rfl, rfl⟩
    · obtain ⟨j, c, h1, h2⟩ := mem_permH h; exact ⟨j, c, by simp [h1], h2⟩

theorem Sat.perm {C : Ctx} {s : St} {a : Act} {w : World} {is : List Nat} (hp : okPerm is s.m C.fix = true) (h : Sat C s a w) : Sat C (permS is s) a w := by
  obtain ⟨ρ, F, h⟩ := h
  simp only [okPerm, Bool.and_eq_true] at hp
  obtain ⟨⟨⟨p1, p2⟩, p3⟩, p4⟩ := hp
  have q2 : ∀ i, i < s.m → nth is i < s.m ∧ nth is (nth is i) = i := fun i hi => by
    have := allBelow_spec p2 i hi
    simp only [Bool.and_eq_true] at this
    exact ⟨by simpa using this.1, Nat.eq_of_beq_eq_true this.2⟩
  have q3 : ∀ i, i < C.fix → nth is i = i := fun i hi => Nat.eq_of_beq_eq_true (allBelow_spec p3 i hi)
  let ρ' : Nat → Value := fun i => ρ (nth is i)
  have hρ : ∀ i, i < s.m → ρ' (nth is i) = ρ i := fun i hi => by show ρ (nth is (nth is i)) = ρ i; rw [(q2 i hi).2]
  have hlt : ∀ i, i < s.m → nth is i < s.m := fun i hi => (q2 i hi).1
  have hk : ∀ u v, fresh s.m u = true → R0 ρ F w u v → R0 ρ' F w (ren0 is u) v := fun u v hu hr => R0.ren hρ hu hr
  have hfr : ∀ i c, (i, c) ∈ s.H → i < s.m := fun i c hi => (h.freshH i c hi).1
  have hbk : ∀ i c b, (i, c) ∈ s.H → (bks ρ' (nth is i) (c.map (ren0 is)) b ↔ bks ρ i c b) := fun i c b hi => by
    have e := hρ i (hfr i c hi)
    cases c <;> simp only [Ch.map, bks, e]
  refine ⟨ρ', F, { size := h.size, defers := h.defers, slot := fun t v' hv => ?_, ch := fun i c' hi => ?_, sep := fun i j ci cj b hi hj hij e => ?_, out := fun i c b hi e => ?_, freshL := fun t v' hv => ?_, freshH := fun i c' hi => ?_, lt := h.lt, mine := fun i c b hi e => ?_, sub := h.sub, base := h.base, fixd := ⟨h.fixd.1, fun i hi => ?_⟩, keep := h.keep, env := h.env }⟩
  · obtain ⟨v, hv0, rfl⟩ := mem_permL hv
    obtain ⟨x, hx, hr⟩ := h.slot t v hv0
    refine ⟨x, hx, ?_⟩
    have hf := h.freshL t v hv0
    cases v with
    | g p u => exact ⟨fun hp => R3.map hk hf (hr.1 hp), hr.2⟩
    | d y => exact RS_of (R3.map (u := .d y) hk hf hr)
    | nils => exact RS_of (R3.map (u := .nils) hk hf hr)
    | ptr y z => exact RS_of (R3.map (u := .ptr y z) hk hf hr)
    | own y => exact RS_of (R3.map (u := .own y) hk hf hr)
    | vptr y z i j => exact RS_of (R3.map (u := .vptr y z i j) hk hf hr)
    | eptr y => exact RS_of (R3.map (u := .eptr y) hk hf hr)
    | fn f y => exact RS_of (R3.map (u := .fn f y) hk hf hr)
    | agg y => exact RS_of (R3.map (u := .agg y) hk hf hr)
    | tup y => exact RS_of (R3.map (u := .tup y) hk hf hr)
    | dead => exact RS_of (R3.map (u := .dead) hk hf hr)
  · obtain ⟨j, c, hc, rfl, rfl⟩ := mem_permH hi
    exact ChOK.ren hρ (hfr j c hc) (h.freshH j c hc).2 (h.ch j c hc)
  · obtain ⟨i', ci, hi0, rfl, rfl⟩ := mem_permH hi
    obtain ⟨j', cj, hj0, rfl, rfl⟩ := mem_permH hj
    exact fun e2 => h.sep i' j' ci cj b hi0 hj0 (fun e3 => hij (by rw [e3])) ((hbk _ _ _ hi0).1 e) ((hbk _ _ _ hj0).1 e2)
  · obtain ⟨j, c, hc, rfl, rfl⟩ := mem_permH hi
    exact h.out j c b hc ((hbk _ _ _ hc).1 e)
  · obtain ⟨v, hv0, rfl⟩ := mem_permL hv
    have hf := h.freshL t v hv0
    have h3 : ∀ {u : V}, u.all3 (fresh s.m) = true → (u.map3 (ren0 is)).all3 (fresh s.m) = true := fun hu => ren_fresh3 hlt hu
    cases v with
    | g p u => exact h3 hf
    | d y => rfl
    | nils => rfl
    | ptr y z => exact h3 (u := .ptr y z) hf
    | own y => exact h3 (u := .own y) hf
    | vptr y z i j => exact h3 (u := .vptr y z i j) hf
    | eptr y => rfl
    | fn f y => exact h3 (u := .fn f y) hf
    | agg y => exact h3 (u := .agg y) hf
    | tup y => exact h3 (u := .tup y) hf
    | dead => rfl
  · obtain ⟨j, c, hc, rfl, rfl⟩ := mem_permH hi
    exact ⟨hlt j (hfr j c hc), ren_freshC hlt (h.freshH j c hc).2⟩
  · obtain ⟨j, c, hc, rfl, rfl⟩ := mem_permH hi
    exact h.mine j c b hc ((hbk _ _ _ hc).1 e)
  · show ρ (nth is i) = C.ρ0 i
    rw [q3 i hi]; exact h.fixd.2 i hi

theorem EvT.soundH {C : Ctx} {ops : Array Oper} {J : St → Prop} {Q : Exit → Act → World → Prop} {S0 : World → Prop} (hS : ∀ s a w, Sat C s a w → S0 w) (hJ : ∀ s a w, Sat C s a w → J s → Q .normal a w) : ∀ (n : Nat) (t : Ords) (l : Array Bool) (s : St) (a : Act) (w : World), t.chk ops l = true → t.top ops l = true → EvT C ops J t s → Sat C s a w → t.depth ≤ n → wpAnyH C.P .any ops Q S0 n l a w
  | n, .leaf, l, s, a, w, hc, _, ht, hs, _ => by
    have hr : Region.ready .any ops l = [] := by simpa [Ords.chk] using hc
    cases n with
    | zero => exact ⟨hr, hJ s a w hs ht⟩
    | succ n => exact ⟨fun _ => hJ s a w hs ht, fun i hi => by rw [hr] at hi; cases hi⟩
  | n, .no, l, s, a, w, _, htop, _, _, _ => by simp [Ords.top] at htop
  | 0, .fork i x y, l, s, a, w, _, _, _, _, hd => by
    have : x.depth + 1 ≤ (Ords.fork i x y).depth := Nat.le_max_left _ _
    omega
  | n + 1, .fork i x y, l, s, a, w, hc, htop, ht, hs, hd => by
    have hr : (Ords.fork i x y).firsts = Region.ready .any ops l := by simpa [Ords.top] using htop
    refine ⟨fun h => (by rw [← hr] at h; cases h), fun j hj => ?_⟩
    rw [← hr] at hj
    obtain ⟨b, b1, b2, b4, b3⟩ := ht.pick hc hj
    refine one_op b3 hs (fun s1 a1 w1 h1 hj1 => ⟨hS s1 a1 w1 h1, EvT.soundH hS hJ n b _ s1 a1 w1 b1 b2 hj1 h1 (by omega)⟩) (fun _ _ _ _ _ h => h.elim) (fun _ h => h.elim)

def planE (ops : Array Oper) (A : List Nat) (t : Ords) : Bool :=
  Region.noSelect ops && Nat.beq (A.length + t.depth) ops.size && planQ .any ops [] A (Array.replicate ops.size false) fun l => t.chk ops l && t.top ops l

/-- **What only reads (A) comes first; then each order of the rest**, which owns the chunks `is0` and what is new; all come to one state, up to the names of the new chunks. -/
theorem Cx.every2 {P : Pg} {g : Cfg} {C : Ctx} (x : Cx P g C) {s s' : St} {K K' : List Item} {Φ : Exit → St → Prop} {ob : List Prop} (is0 A : List Nat) (t : Ords) (s2 : St) {id : Nat} {ops : Array Oper} (h : run g 1000 K s [] = .code ob (.region id ops true) K' s') (ho : AllP ob) (hm : P.P.follows .mixedOrders = true)
    (hB : planE ops A t = true) (hΦ : NoPanic Φ)
    {obA : List Prop} {sA : St} (hqA : qrun g ops 1000 (pickL ops.toList A) ⟨s'.L, delAll is0 s'.H, s'.m⟩ [] = .done obA sA) (hoA : AllP obA)
    (he : ∀ C2, Cx P { g with fix := s'.m } C2 → EvT C2 ops (fun s => LE s'.m s s2 ∨ ∃ is, okPerm is s.m s'.m = true ∧ LE s'.m (permS is s) s2) t ⟨sA.L, onlyIn is0 s'.H, s'.m⟩)
    (k : Go C K' ⟨s2.L, app3 s2.H (delAll is0 s'.H), s2.m⟩ Φ) : Go C K s Φ := by
  refine st x.ty x.n x.fix h ⟨ho, ?_⟩
  rintro a w ⟨ρ, F, hs⟩
  have hd : Mod none w { w with drawn := w.drawn + 1 } := ⟨rfl, rfl, rfl, Nat.le_refl _, fun _ _ _ => rfl⟩
  have hs1 := hs.mod hd
  generalize hw1 : ({ w with drawn := w.drawn + 1 } : World) = w1 at hs1
  let S0 : World → Prop := fun w' => ∀ k, k < w1.heap.size → ¬ blocksOf ρ s'.H is0 k → w'.heap[k]? = w1.heap[k]?
  obtain ⟨_, hmA, hrA⟩ := qrun_reads (F := F) x.ty x.n (S := S0) (fun w' hw' k hk hlt => hw' k hlt hk) 1000 _ _ _ hqA hoA
  show Code.wp C.P (.region id ops true) (den C (conc C Φ) K') a w
  have hP : C.P.follows .mixedOrders = true := x.progP.symm ▸ hm
  simp only [planE, Bool.and_eq_true] at hB
  obtain ⟨⟨hns, hsz⟩, hpl⟩ := hB
  have hsz := Nat.eq_of_beq_eq_true hsz
  refine wp_region_any hP (wpAny_of_held (S := S0) _ _ _ _ ?_)
  have inv0 : Inv .any ops [] (Array.replicate ops.size false) := ⟨by simp, fun j oj _ hl => (by rw [getD_replicate_false] at hl; cases hl), fun t ht => (by cases ht)⟩
  have key : wpAnyH C.P .any ops (den C (conc C Φ) K') S0 (A.length + t.depth) (Array.replicate ops.size false) a { w with drawn := w.drawn + 1 } := ?_
  · rw [hsz] at key; exact key
  refine planH_sound (T := []) hns (fun c o v a w ho hq => den_quiet hΦ.quiet K' c ho v a w hq) (by rw [hw1]; exact fun k _ _ => rfl) (fun listed a1 inv hk hl => ?_) A _ a inv0 hpl (hrA a hs1)
  rw [hw1]
  simp only [Bool.and_eq_true] at hk
  have hl : SatW C ⟨sA.L, s'.H, s'.m⟩ a1 w1 ρ F := hl
  let C2 := C.sub s' is0 w1 ρ F
  have h2f : SatW C2 ⟨sA.L, onlyIn is0 s'.H, s'.m⟩ a1 w1 ρ F := hl.frame (s := ⟨sA.L, s'.H, s'.m⟩) is0
  have hx2 : Cx P { g with fix := s'.m } C2 := ⟨x.prog, x.n, rfl, x.tys⟩
  refine EvT.soundH (C := C2) (fun s a w hs => ?_) (fun s3 a3 w3 hs3 hj => ?_) t.depth t listed _ a1 w1 hk.1 hk.2 (he C2 hx2) ⟨ρ, F, h2f⟩ (Nat.le_refl _)
  · obtain ⟨ρ', F', hs⟩ := hs
    exact fun k hk hb => hs.keep.block k hk hb
  · have hs4 : Sat C2 s2 a3 w3 := by
      rcases hj with hj | ⟨is, hp, hj⟩
      · exact LE.sat hj hs3
      · exact LE.sat hj (Sat.perm hp hs3)
    obtain ⟨ρ4, F4, h4⟩ := hs4
    exact k a3 w3 ⟨ρ4, F4, hl.unframe (s := ⟨sA.L, s'.H, s'.m⟩) h4⟩
end Go.Sx
