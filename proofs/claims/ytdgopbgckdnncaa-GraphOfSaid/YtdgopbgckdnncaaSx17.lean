/-
  Sx, part 17: contracts of functions; their proof; calls.
-/
import Derived.Test.YtdgopbgckdnncaaSx16
set_option linter.unusedVariables false
set_option linter.unusedSimpArgs false
namespace Go.Sx

def ixV : Nat → List V → List (Nat × V)
  | _, [] => []
  | k, v :: r => (k, v) :: ixV (k + 1) r
def ixC : Nat → List Ch → List (Nat × Ch)
  | _, [] => []
  | k, v :: r => (k, v) :: ixC (k + 1) r

theorem mem_ixV {k t : Nat} {v : V} : ∀ {l : List V}, (t, v) ∈ ixV k l → k ≤ t ∧ l[t - k]? = some v
  | u :: r, h => by
    rcases List.mem_cons.1 h with e | h
    · obtain ⟨rfl, rfl⟩ := Prod.mk.inj e; simp
    · obtain ⟨h1, h2⟩ := mem_ixV (k := k + 1) h
      refine ⟨by omega, ?_⟩
      rw [show t - k = (t - (k + 1)) + 1 by omega]; simpa using h2
  | [], h => by cases h
theorem mem_ixC {k t : Nat} {v : Ch} : ∀ {l : List Ch}, (t, v) ∈ ixC k l → k ≤ t ∧ l[t - k]? = some v
  | u :: r, h => by
    rcases List.mem_cons.1 h with e | h
    · obtain ⟨rfl, rfl⟩ := Prod.mk.inj e; simp
    · obtain ⟨h1, h2⟩ := mem_ixC (k := k + 1) h
      refine ⟨by omega, ?_⟩
      rw [show t - k = (t - (k + 1)) + 1 by omega]; simpa using h2
  | [], h => by cases h

/-- Chunk numbers of a contract, as they are called elsewhere. -/
def nth : List Nat → Nat → Nat
  | [], i => i
  | x :: _, 0 => x
  | _ :: r, i + 1 => nth r i
def ren0 (is : List Nat) : V → V
  | .ptr i o => .ptr (nth is i) o
  | .own i => .own (nth is i)
  | .vptr i z k o => .vptr (nth is i) z k o
  | v => v

theorem nth_get {is : List Nat} {i : Nat} (h : i < is.length) : is[i]? = some (nth is i) := by
  induction is generalizing i with
  | nil => simp at h
  | cons x r ih =>
    cases i with
    | zero => rfl
    | succ i => simpa [nth] using ih (by simpa using h)

section
variable {ρ ρ' : Nat → Value} {F : Nat → Prop} {w : World}

theorem ren0_leaf {is : List Nat} {u : V} : (ren0 is u).leaf = u.leaf := by cases u <;> rfl

theorem R0.ren {is : List Nat} {k : Nat} (hρ : ∀ i, i < k → ρ' (nth is i) = ρ i) {u : V} {v : Value} (hf : fresh k u = true) (h : R0 ρ F w u v) : R0 ρ' F w (ren0 is u) v := by
  have go : ∀ id, Nat.blt id k = true → ρ' (nth is id) = ρ id := fun id h => hρ id (by simpa using h)
  cases u with
  | ptr id o => obtain ⟨b, h1, h2⟩ := h; exact ⟨b, by rw [go id hf]; exact h1, h2⟩
  | own id => obtain ⟨h1, h2⟩ := h; exact ⟨by rw [go id hf]; exact h1, by rw [go id hf]; exact h2⟩
  | vptr id z i o => obtain ⟨b, h1, h2⟩ := h; exact ⟨b, by rw [go id hf]; exact h1, h2⟩
  | _ => exact h
theorem R0.unren {is : List Nat} {k : Nat} (hρ : ∀ i, i < k → ρ' (nth is i) = ρ i) {u : V} {v : Value} (hf : fresh k u = true) (h : R0 ρ' F w (ren0 is u) v) : R0 ρ F w u v := by
  have go : ∀ id, Nat.blt id k = true → ρ' (nth is id) = ρ id := fun id h => hρ id (by simpa using h)
  cases u with
  | ptr id o => obtain ⟨b, h1, h2⟩ := h; exact ⟨b, by rw [← go id hf]; exact h1, h2⟩
  | own id => obtain ⟨h1, h2⟩ := h; exact ⟨by rw [← go id hf]; exact h1, by rw [← go id hf]; exact h2⟩
  | vptr id z i o => obtain ⟨b, h1, h2⟩ := h; exact ⟨b, by rw [← go id hf]; exact h1, h2⟩
  | _ => exact h

theorem All2.unmap {α α' β : Type} {R : α → β → Prop} {R' : α' → β → Prop} {g : α → α'} : ∀ {as : List α} {bs : List β}, (∀ a b, a ∈ as → R' (g a) b → R a b) → All2 R' (as.map g) bs → All2 R as bs
  | [], [], _, _ => trivial
  | a :: as, b :: bs, h, ⟨h1, h2⟩ => ⟨h a b (by simp) h1, All2.unmap (fun a b ha => h a b (by simp [ha])) h2⟩
  | [], _ :: _, _, h => h.elim
  | _ :: _, [], _, h => h.elim

theorem R1.unren {is : List Nat} {k : Nat} (hρ : ∀ i, i < k → ρ' (nth is i) = ρ i) {u : V} {v : Value} (hf : u.all1 (fresh k) = true) (h : R1 ρ' F w (u.map1 (ren0 is)) v) : R1 ρ F w u v := by
  cases u with
  | fn f caps =>
    obtain ⟨cs, rfl, hc⟩ := h
    exact ⟨cs, rfl, hc.unmap fun a b ha hab => R0.unren hρ (by simpa using (List.all_eq_true.1 hf) a ha) hab⟩
  | d y => exact h
  | nils => exact h
  | ptr y z => exact R1_of (R0.unren (u := .ptr y z) hρ hf h)
  | own y => exact R1_of (R0.unren (u := .own y) hρ hf h)
  | vptr y z i j => exact R1_of (R0.unren (u := .vptr y z i j) hρ hf h)
  | eptr y => exact h
  | dead => exact h
  | _ => exact (show False from h).elim
theorem R2.unren {is : List Nat} {k : Nat} (hρ : ∀ i, i < k → ρ' (nth is i) = ρ i) {u : V} {v : Value} (hf : u.all2 (fresh k) = true) (h : R2 ρ' F w (u.map2 (ren0 is)) v) : R2 ρ F w u v := by
  cases u with
  | agg us =>
    obtain ⟨cs, rfl, hc⟩ := h
    exact ⟨cs, rfl, hc.unmap fun a b ha hab => R1.unren hρ (by simpa using (List.all_eq_true.1 hf) a ha) hab⟩
  | fn f caps => exact R2_of (R1.unren (u := .fn f caps) hρ hf h)
  | d y => exact h
  | nils => exact h
  | ptr y z => exact R2_of (R1.unren (u := .ptr y z) hρ hf h)
  | own y => exact R2_of (R1.unren (u := .own y) hρ hf h)
  | vptr y z i j => exact R2_of (R1.unren (u := .vptr y z i j) hρ hf h)
  | eptr y => exact h
  | dead => exact h
  | _ => exact (show False from h).elim
theorem R3.unren {is : List Nat} {k : Nat} (hρ : ∀ i, i < k → ρ' (nth is i) = ρ i) {u : V} {v : Value} (hf : u.all3 (fresh k) = true) (h : R3 ρ' F w (u.map3 (ren0 is)) v) : R3 ρ F w u v := by
  cases u with
  | tup us =>
    obtain ⟨cs, rfl, hc⟩ := h
    exact ⟨cs, rfl, hc.unmap fun a b ha hab => R2.unren hρ (by simpa using (List.all_eq_true.1 hf) a ha) hab⟩
  | agg us => exact R3_of (R2.unren (u := .agg us) hρ hf h)
  | fn f caps => exact R3_of (R2.unren (u := .fn f caps) hρ hf h)
  | d y => exact h
  | nils => exact h
  | ptr y z => exact R3_of (R2.unren (u := .ptr y z) hρ hf h)
  | own y => exact R3_of (R2.unren (u := .own y) hρ hf h)
  | vptr y z i j => exact R3_of (R2.unren (u := .vptr y z i j) hρ hf h)
  | eptr y => exact h
  | dead => exact h
  | _ => exact (show False from h).elim

theorem ChOK.ren {is : List Nat} {k : Nat} (hρ : ∀ i, i < k → ρ' (nth is i) = ρ i) {i : Nat} (hi : i < k) {c : Ch} (hf : c.all (fresh k) = true) (h : ChOK ρ F w i c) : ChOK ρ' F w (nth is i) (c.map (ren0 is)) := by
  have e := hρ i hi
  cases c with
  | box us =>
    obtain ⟨b, cs, T, h1, h2, h3⟩ := h
    exact ⟨b, cs, T, e.trans h1, h2, h3.imp fun a b ha hab => R1.map (p := fresh k) (fun u v hu hr => R0.ren hρ hu hr) (by simpa using (List.all_eq_true.1 hf) a ha) hab⟩
  | arr sz n f => obtain ⟨b, cs, T, h1, h2, h3⟩ := h; exact ⟨b, cs, T, e.trans h1, h2, h3⟩
  | vec ee sz n f => obtain ⟨xs, h1, h2⟩ := h; exact ⟨xs, by rw [e]; exact h1, h2⟩
  | iter s pos => obtain ⟨b, h1, h2⟩ := h; exact ⟨b, e.trans h1, h2⟩
  | rows _ _ _ _ _ _ _ _ => obtain ⟨xs, h1, h2, h3, h4⟩ := h; exact ⟨xs, by rw [e]; exact h1, h2, by rw [e]; exact h3, h4⟩
theorem ChOK.unren {is : List Nat} {k : Nat} (hρ : ∀ i, i < k → ρ' (nth is i) = ρ i) {i : Nat} (hi : i < k) {c : Ch} (hf : c.all (fresh k) = true) (h : ChOK ρ' F w (nth is i) (c.map (ren0 is))) : ChOK ρ F w i c := by
  have e := hρ i hi
  cases c with
  | box us =>
    obtain ⟨b, cs, T, h1, h2, h3⟩ := h
    exact ⟨b, cs, T, e.symm.trans h1, h2, h3.unmap fun a b ha hab => R1.unren hρ (by simpa using (List.all_eq_true.1 hf) a ha) hab⟩
  | arr sz n f => obtain ⟨b, cs, T, h1, h2, h3⟩ := h; exact ⟨b, cs, T, e.symm.trans h1, h2, h3⟩
  | vec ee sz n f => obtain ⟨xs, h1, h2⟩ := h; exact ⟨xs, by rw [← e]; exact h1, h2⟩
  | iter s pos => obtain ⟨b, h1, h2⟩ := h; exact ⟨b, e.symm.trans h1, h2⟩
  | rows _ _ _ _ _ _ _ _ => obtain ⟨xs, h1, h2, h3, h4⟩ := h; exact ⟨xs, by rw [← e]; exact h1, h2, by rw [← e]; exact h3, h4⟩
end

/-- The chunks H, numbered from 0, hold, apart from one another and from F. -/
structure Holds (ρ : Nat → Value) (F : Nat → Prop) (w : World) (H : List Ch) : Prop where
  ch : ∀ i c, H[i]? = some c → ChOK ρ F w i c
  sep : ∀ (i j : Nat) b, i < H.length → j < H.length → i ≠ j → blk (ρ i) = some b → blk (ρ j) ≠ some b
  out : ∀ (i b : Nat), i < H.length → blk (ρ i) = some b → ¬ F b

def ownB (ρ : Nat → Value) (H : List Ch) : Nat → Prop := fun b => ∃ i, i < H.length ∧ blk (ρ i) = some b

/-- WHAT A CALL LEAVES: r, with the chunks H' (the first `fix` of which lie where they lay). -/
def Post (w : World) (F : Nat → Prop) (ρ : Nat → Value) (fix : Nat) (H : List Ch) (r : V) (H' : List Ch) (e : Ending) (w' : World) : Prop :=
  ∃ v ρ' F', e = .returned v ∧ Keeps w (ownB ρ H) w' ∧ (∀ i, i < fix → ρ' i = ρ i) ∧ (∀ k, F k → F' k) ∧ (∀ k, F' k → k < w'.heap.size) ∧
    (∀ k, F' k → F k ∨ w.heap.size ≤ k ∨ ownB ρ H k) ∧ R3 ρ' F' w' r v ∧ Holds ρ' F' w' H' ∧ (∀ (i b : Nat), i < H'.length → blk (ρ' i) = some b → w.heap.size ≤ b ∨ ownB ρ H b)

def Callable (P : Program) (f : FuncId) : Prop := ∃ fn, P.funcs[f]? = some fn ∧ fn.body.isSome = true ∧ (fn.name == "runtime.NumGoroutine") = false

def freshAll (args : List V) (H : List Ch) (k : Nat) : Bool := args.all (V.all3 (fresh k)) && H.all (fun c => Ch.all (fresh k) c && plainC c)

/-- **A CONTRACT**: called with args over the chunks H the function hands back r and the chunks H'. -/
def Proc (P : Pg) (f : FuncId) (fix : Nat) (args : List V) (H : List Ch) (r : V) (H' : List Ch) : Prop :=
  Callable P.P f ∧ freshAll args H H.length = true ∧ freshAll [r] H' H'.length = true ∧ fix ≤ H.length ∧ H.length ≤ H'.length ∧
  ∀ (w : World) (F : Nat → Prop) (ρ : Nat → Value) (vals : List Value), (∀ k, F k → k < w.heap.size) → EnvOK P.env F w → Holds ρ F w H → All2 (R3 ρ F w) args vals →
    Calls P.P f vals.toArray w (Post w F ρ fix H r H')

abbrev Pure (P : Pg) (f : FuncId) (args : List V) (r : V) (H' : List Ch) : Prop := Proc P f 0 args [] r H'
end Go.Sx
