/-
  Sx, part 27: plain facts for elements of one cell.
-/
import Derived.Test.YtdgopbgckdnncaaSx26
set_option linter.unusedVariables false
set_option linter.unusedSimpArgs false
namespace Go.Sx

theorem zip1 (c : Prop) [Decidable c] (a b : D) : zipIte c [a] [b] = [iteD c a b] := by
  unfold zipIte
  congr 1
  unfold zipIte
  simp
theorem iteD_int (c : Prop) [Decidable c] (k : IntKind) (a b : Int) : iteD c (.int k a) (.int k b) = .int k (if c then a else b) := by
  show (bif kbeq k k then D.int k (if c then a else b) else if c then D.int k a else D.int k b) = _
  rw [show kbeq k k = true by simp [kbeq]]
  rfl
theorem put2_int (k : IntKind) (b : Nat → Int) (i : Nat) (v : Int) : put2 (fun j => [D.int k (b j)]) i 0 [.int k v] = fun j => [D.int k (if j = i then v else b j)] := by
  funext j
  show zipIte (j = i) [D.int k v] [D.int k (b j)] = _
  rw [zip1, iteD_int]
theorem put2_bool (b : Nat → Bool) (i : Nat) (v : Bool) : put2 (fun j => [D.bool (b j)]) i 0 [.bool v] = fun j => [D.bool (if j = i then v else b j)] := by
  funext j
  show zipIte (j = i) [D.bool v] [D.bool (b j)] = _
  rw [zip1]
  rfl
theorem app_int (k : IntKind) (n : Nat) (b c : Nat → Int) : app n (fun j => [D.int k (b j)]) (fun j => [D.int k (c j)]) = fun j => [D.int k (if j < n then b j else c (j - n))] := by
  funext j
  show zipIte (j < n) [D.int k (b j)] [D.int k (c (j - n))] = _
  rw [zip1, iteD_int]
/-- What one cell of a list holds. -/
theorem app_list (k : IntKind) (l : List Int) (v : Int) (j : Nat) (hj : j < l.length + 1) : app l.length (fun j => [D.int k (l.getD j 0)]) (fun _ => [D.int k v]) j = [D.int k ((l ++ [v]).getD j 0)] := by
  show zipIte (j < l.length) [D.int k (l.getD j 0)] [D.int k v] = _
  rw [zip1, iteD_int]
  congr 2
  by_cases h : j < l.length
  · rw [if_pos h]; simp [List.getD_eq_getElem?_getD, List.getElem?_append_left h]
  · rw [if_neg h]
    have : j = l.length := by omega
    subst this
    simp [List.getD_eq_getElem?_getD]

/-- Two ways that come together again. -/
theorem Cx.ite {P : Pg} {g : Cfg} {C : Ctx} (x : Cx P g C) {s s' : St} {K K' : List Item} {Φ : Exit → St → Prop} {ob : List Prop} {α : Type} (I : α → St) {b : Bool} {c1 c2 : Code} (h : run g 1000 K s [] = .cond ob b c1 c2 K' s') (ho : AllP ob)
    (h1 : b = true → Go C (.code c1 :: .back (fun s' => ∃ y, LE g.fix s' (I y)) :: K') s' Φ) (h2 : b = false → Go C (.code c2 :: .back (fun s' => ∃ y, LE g.fix s' (I y)) :: K') s' Φ) (h3 : ∀ y, Go C K' (I y) Φ) : Go C K s Φ :=
  x.cond h ho (fun hb => x.cut I (h1 hb) h3) (fun hb => x.cut I (h2 hb) h3)

/-- A slice that is nil is an owned one of no elements. -/
theorem Go.own {C : Ctx} {s : St} {K : List Item} {Φ : Exit → St → Prop} (t : Nat) (e : TypeId) (sz : Nat) (f : Nat → List D) (h : get s.L t = some .nils) (k : Go C K (newCh s t (.own s.m) (.vec e sz 0 f)) Φ) : Go C K s Φ := by
  rintro a w ⟨ρ, F, hs⟩
  obtain ⟨x, hx, hr⟩ := hs.slot t _ (get_mem h)
  obtain rfl : x = .slice none 0 0 := hr
  have hlt : t < a.tmps.size := (Array.getElem?_eq_some_iff.1 hx).1
  have hput : a.put (some t) (.slice none 0 0) = a := by
    cases a with
    | mk tmps defers =>
      simp only [Act.put, Act.mk.injEq, and_true]
      apply Array.ext
      · simp
      · intro i h1 h2
        by_cases hi : t = i
        · subst hi
          have := (Array.getElem?_eq_some_iff.1 hx).2
          simp [this]
        · rw [Array.getElem_setIfInBounds_ne _ hi]
  have := hs.row (d := t) (x := .slice none 0 0) (e := e) (sz := sz) (n := 0) (f := f) (xs := []) (w' := w) (by rw [← hs.size]; exact hlt) ⟨rfl, rfl, rfl, Nat.le_refl _, fun _ _ _ => rfl⟩ (fun b hb => by simp [blk] at hb) ⟨_, _, _, rfl⟩ ⟨by simp, .inl ⟨rfl, rfl⟩⟩ (fun i hi => absurd hi (Nat.not_lt_zero _))
  rw [hput] at this
  exact k a w this

/-- Up to a loop, to turn the state ahead of it. -/
theorem Cx.toLoop {P : Pg} {g : Cfg} {C : Ctx} (x : Cx P g C) {s s' : St} {K K' : List Item} {Φ : Exit → St → Prop} {ob : List Prop} {c : Code} (h : run g 1000 K s [] = .loop ob c K' s') (ho : AllP ob)
    (k : Go C (.code (.loop c) :: K') s' Φ) : Go C K s Φ :=
  st x.ty x.n x.fix h ⟨ho, k⟩

/-! ### byte strings as lists -/
def ba (l : List UInt8) : ByteArray := ⟨l.toArray⟩
theorem ba_app (a b : List UInt8) : ba a ++ ba b = ba (a ++ b) := by
  apply ByteArray.ext
  simp [ba, ByteArray.data_append]
theorem ba_eq (s : ByteArray) : s = ba s.data.toList := by cases s; rfl
theorem ba_size (l : List UInt8) : (ba l).size = l.length := by simp [ba, ByteArray.size]
theorem bytesOf_ba (n : Nat) (b : Nat → Int) : bytesOf n (fun j => [D.int .u8 (b j)]) = ba ((List.range n).map fun i => UInt8.ofNat (b i).toNat) := rfl
end Go.Sx
