/-
  Sx, part 1: abstract values, what they stand for in a world, and how that is kept. By an AI agent for the claims of this repo.
-/
import Derived.WalkKit
import Derived.WalkLawsBesides
import Derived.Laws.AppendOwn
import Derived.Laws.OwnMore
import Derived.Laws.MakeOwn
import Derived.Laws.NewBlocks
import Derived.Below
import Derived.KernelRfl
set_option linter.unusedVariables false
set_option linter.unusedSimpArgs false
namespace Go.Sx

/-- Data of one cell: a number, a bool, a string, a slice that nobody writes any more (n elements of sz cells each). -/
inductive D where
  | int (k : IntKind) (n : Int)
  | bool (b : Bool)
  | str (s : ByteArray)
  | sl (sz n : Nat) (f : Nat → List D)

instance : Inhabited D := ⟨.bool false⟩

/-- What a datum stands for in a world: slices lie in blocks of F. -/
inductive RD (F : Nat → Prop) (w : World) : D → Value → Prop
  | int (k : IntKind) (n : Int) : RD F w (.int k n) (.int k n)
  | bool (b : Bool) : RD F w (.bool b) (.bool b)
  | str (s : ByteArray) : RD F w (.str s) (.string s)
  | emp (sz : Nat) (f : Nat → List D) (a : Option Addr) (cap : Nat) : RD F w (.sl sz 0 f) (.slice a 0 cap)
  | sl (sz n : Nat) (f : Nat → List D) (b o cap : Nat) (cs : Nat → Nat → Value) (hF : F b) (hn : n ≤ cap)
      (hc : ∀ i j, i < n → j < sz → w.cell? ⟨b, o + (i * sz + j), none⟩ = some (cs i j))
      (hl : ∀ i, i < n → (f i).length = sz)
      (hr : ∀ i j d, i < n → (f i)[j]? = some d → RD F w d (cs i j)) :
      RD F w (.sl sz n f) (.slice (some ⟨b, o, none⟩) n cap)

theorem RD.mono {F F' : Nat → Prop} {w w' : World} (hF : ∀ k, F k → F' k) (hw : ∀ k, F k → w'.heap[k]? = w.heap[k]?) {d : D} {v : Value} (h : RD F w d v) : RD F' w' d v := by
  induction h with
  | int k n => exact .int k n
  | bool b => exact .bool b
  | str s => exact .str s
  | emp sz f a cap => exact .emp sz f a cap
  | sl sz n f b o cap cs hFb hn hc hl _ ih =>
    refine .sl sz n f b o cap cs (hF b hFb) hn (fun i j hi hj => ?_) hl ih
    rw [← hc i j hi hj]
    exact World.cell?_of_block (w := w) (hw b hFb)

theorem RD.one {F : Nat → Prop} {w : World} {d : D} {v : Value} (h : RD F w d v) : v.oneCell' = true := by cases h <;> rfl

/-- Abstract values. -/
inductive V where
  | d (x : D)
  | nils
  | ptr (id off : Nat)
  | own (id : Nat)
  | vptr (id sz i off : Nat)
  | eptr (ds : List D)
  | fn (f : FuncId) (caps : List V)
  | agg (vs : List V)
  | tup (vs : List V)
  | g (p : List (Nat × Bool)) (v : V)
  | dead

instance : Inhabited V := ⟨.dead⟩

abbrev vi (n : Int) : V := .d (.int .i64 n)
abbrev vb (b : Bool) : V := .d (.bool b)
abbrev vs (s : ByteArray) : V := .d (.str s)

def All2 {α β : Type} (R : α → β → Prop) : List α → List β → Prop
  | [], [] => True
  | a :: as, b :: bs => R a b ∧ All2 R as bs
  | _, _ => False

theorem All2.imp {α α' β : Type} {R : α → β → Prop} {R' : α' → β → Prop} {g : α → α'} :
    ∀ {as : List α} {bs : List β}, (∀ a b, a ∈ as → R a b → R' (g a) b) → All2 R as bs → All2 R' (as.map g) bs
  | [], [], _, _ => trivial
  | a :: as, b :: bs, h, ⟨h1, h2⟩ => ⟨h a b (by simp) h1, All2.imp (fun a b ha => h a b (by simp [ha])) h2⟩
  | [], _ :: _, _, h => h.elim
  | _ :: _, [], _, h => h.elim

theorem All2.length {α β : Type} {R : α → β → Prop} : ∀ {as : List α} {bs : List β}, All2 R as bs → as.length = bs.length
  | [], [], _ => rfl
  | _ :: _, _ :: _, ⟨_, h⟩ => by simp [All2.length h]
  | [], _ :: _, h => h.elim
  | _ :: _, [], h => h.elim

theorem All2.get {α β : Type} {R : α → β → Prop} : ∀ {as : List α} {bs : List β} {i : Nat} {a : α}, All2 R as bs → as[i]? = some a → ∃ b, bs[i]? = some b ∧ R a b
  | [], _, _, _, _, h => by simp at h
  | _ :: _, [], _, _, h, _ => h.elim
  | a :: as, b :: bs, 0, a', ⟨h, _⟩, e => by simp at e; subst e; exact ⟨b, rfl, h⟩
  | a :: as, b :: bs, i + 1, a', ⟨_, h⟩, e => by simpa using All2.get h (by simpa using e)

theorem All2.set {α β : Type} {R : α → β → Prop} : ∀ {as : List α} {bs : List β} {i : Nat} {a : α} {b : β}, All2 R as bs → R a b → All2 R (as.set i a) (bs.set i b)
  | [], [], _, _, _, _, _ => trivial
  | _ :: _, _ :: _, 0, _, _, ⟨_, h⟩, e => ⟨e, h⟩
  | _ :: _, _ :: _, _ + 1, _, _, ⟨h0, h⟩, e => ⟨h0, All2.set h e⟩
  | [], _ :: _, _, _, _, h, _ => h.elim
  | _ :: _, [], _, _, _, h, _ => h.elim

theorem All2.drop {α β : Type} {R : α → β → Prop} : ∀ {as : List α} {bs : List β} (i : Nat), All2 R as bs → All2 R (as.drop i) (bs.drop i)
  | [], [], _, _ => by simp [All2]
  | _ :: _, _ :: _, 0, h => h
  | _ :: _, _ :: _, i + 1, ⟨_, h⟩ => by simpa using All2.drop i h
  | [], _ :: _, _, h => h.elim
  | _ :: _, [], _, h => h.elim

theorem All2.take {α β : Type} {R : α → β → Prop} : ∀ {as : List α} {bs : List β} (i : Nat), All2 R as bs → All2 R (as.take i) (bs.take i)
  | [], [], _, _ => by simp [All2]
  | _ :: _, _ :: _, 0, _ => by simp [All2]
  | _ :: _, _ :: _, i + 1, ⟨h0, h⟩ => by simpa [All2] using ⟨h0, All2.take i h⟩
  | [], _ :: _, _, h => h.elim
  | _ :: _, [], _, h => h.elim

/-- The block that a pointer or a slice leads to. -/
def blk : Value → Option Nat
  | .pointer (some a) => some a.block
  | .slice (some a) _ _ => some a.block
  | _ => none

section
variable (ρ : Nat → Value) (F : Nat → Prop) (w : World)

/-- One cell, no function. -/
def R0 : V → Value → Prop
  | .d x, v => RD F w x v
  | .nils, v => v = .slice none 0 0
  | .ptr id off, v => ∃ b, ρ id = .pointer (some ⟨b, 0, none⟩) ∧ v = .pointer (some ⟨b, off, none⟩)
  | .own id, v => v = ρ id ∧ ∃ a n c, ρ id = .slice a n c
  | .vptr id sz i off, v => ∃ b, blk (ρ id) = some b ∧ v = .pointer (some ⟨b, i * sz + off, none⟩)
  | .eptr ds, v => ∃ b o, ∃ cs : Nat → Value, v = .pointer (some ⟨b, o, none⟩) ∧ F b ∧ ∀ j d, ds[j]? = some d → w.cell? ⟨b, o + j, none⟩ = some (cs j) ∧ RD F w d (cs j)
  | .dead, v => v.oneCell' = true
  | _, _ => False
def R1 : V → Value → Prop
  | .fn f caps, v => ∃ cs : List Value, v = .func (.func f) #[] cs.toArray ∧ All2 (R0 ρ F w) caps cs
  | u, v => R0 ρ F w u v
def R2 : V → Value → Prop
  | .agg us, v => ∃ cs : List Value, v = .agg cs.toArray ∧ All2 (R1 ρ F w) us cs
  | u, v => R1 ρ F w u v
def R3 : V → Value → Prop
  | .tup us, v => ∃ cs : List Value, v = .tuple cs.toArray ∧ All2 (R2 ρ F w) us cs
  | u, v => R2 ρ F w u v
end

/-- A leaf: neither a function, a struct, a tuple nor a guarded value. -/
def V.leaf : V → Bool
  | .fn .. | .agg _ | .tup _ | .g .. => false
  | _ => true

def V.map1 (k : V → V) : V → V
  | .fn f caps => .fn f (caps.map k)
  | v => k v
def V.map2 (k : V → V) : V → V
  | .agg us => .agg (us.map (V.map1 k))
  | v => V.map1 k v
def V.map3 (k : V → V) : V → V
  | .tup us => .tup (us.map (V.map2 k))
  | v => V.map2 k v
def V.all1 (p : V → Bool) : V → Bool
  | .fn _ caps => caps.all p
  | v => p v
def V.all2 (p : V → Bool) : V → Bool
  | .agg us => us.all (V.all1 p)
  | v => V.all1 p v
def V.all3 (p : V → Bool) : V → Bool
  | .tup us => us.all (V.all2 p)
  | v => V.all2 p v

section
variable {ρ ρ' : Nat → Value} {F F' : Nat → Prop} {w w' : World}
theorem R0.leaf {u : V} {v : Value} (h : R0 ρ F w u v) : u.leaf = true := by cases u <;> first | rfl | exact h.elim
theorem R1_of {u : V} {v : Value} (h : R0 ρ F w u v) : R1 ρ F w u v := by cases u <;> first | exact h | exact h.elim
theorem R2_of {u : V} {v : Value} (h : R1 ρ F w u v) : R2 ρ F w u v := by cases u <;> first | exact h | exact h.elim
theorem R3_of {u : V} {v : Value} (h : R2 ρ F w u v) : R3 ρ F w u v := by cases u <;> first | exact h | exact h.elim

theorem R1.map {p : V → Bool} {k : V → V} (hk : ∀ u v, p u = true → R0 ρ F w u v → R0 ρ' F' w' (k u) v) {u : V} {v : Value} (hp : u.all1 p = true) (h : R1 ρ F w u v) : R1 ρ' F' w' (u.map1 k) v := by
  have go : u.leaf = true → p u = true → R0 ρ F w u v → R1 ρ' F' w' (k u) v := fun _ hp h => R1_of (hk u v hp h)
  cases u with
  | fn f caps =>
    obtain ⟨cs, rfl, hcs⟩ := h
    exact ⟨cs, rfl, hcs.imp fun a b ha hab => hk a b (by simpa using (List.all_eq_true.1 hp) a ha) hab⟩
  | agg us => exact (show False from h).elim
  | tup us => exact (show False from h).elim
  | g q u => exact (show False from h).elim
  | _ => exact go rfl hp h
theorem R2.map {p : V → Bool} {k : V → V} (hk : ∀ u v, p u = true → R0 ρ F w u v → R0 ρ' F' w' (k u) v) {u : V} {v : Value} (hp : u.all2 p = true) (h : R2 ρ F w u v) : R2 ρ' F' w' (u.map2 k) v := by
  cases u with
  | agg us =>
    obtain ⟨cs, rfl, hcs⟩ := h
    exact ⟨cs, rfl, hcs.imp fun a b ha hab => R1.map hk (by simpa using (List.all_eq_true.1 hp) a ha) hab⟩
  | fn f caps => exact R2_of (R1.map (u := .fn f caps) hk hp h)
  | tup us => exact (show False from h).elim
  | g q u => exact (show False from h).elim
  | _ => exact R2_of (R1_of (hk _ v hp h))
theorem R3.map {p : V → Bool} {k : V → V} (hk : ∀ u v, p u = true → R0 ρ F w u v → R0 ρ' F' w' (k u) v) {u : V} {v : Value} (hp : u.all3 p = true) (h : R3 ρ F w u v) : R3 ρ' F' w' (u.map3 k) v := by
  cases u with
  | tup us =>
    obtain ⟨cs, rfl, hcs⟩ := h
    exact ⟨cs, rfl, hcs.imp fun a b ha hab => R2.map hk (by simpa using (List.all_eq_true.1 hp) a ha) hab⟩
  | fn f caps => exact R3_of (R2_of (R1.map (u := .fn f caps) hk hp h))
  | agg us => exact R3_of (R2.map (u := .agg us) hk hp h)
  | g q u => exact (show False from h).elim
  | _ => exact R3_of (R2_of (R1_of (hk _ v hp h)))
end
/-! ## states -/

def get {α : Type} : List (Nat × α) → Nat → Option α
  | [], _ => none
  | (s, v) :: r, t => bif Nat.beq s t then some v else get r t

def V.gon (d : Nat) : V → Bool
  | .g p _ => p.any fun e => Nat.beq e.1 d
  | _ => false

def del (d : Nat) : List (Nat × V) → List (Nat × V)
  | [] => []
  | (s, v) :: r => bif Nat.beq s d || v.gon d then del d r else (s, v) :: del d r

def put (L : List (Nat × V)) (d : Nat) (v : V) : List (Nat × V) := (d, v) :: del d L

inductive Ch where
  | box (us : List V)
  | arr (sz n : Nat) (f : Nat → List D)
  | vec (e : TypeId) (sz n : Nat) (f : Nat → List D)
  | iter (s : ByteArray) (pos : Nat)
  | rows (e e' : TypeId) (sz n : Nat) (hole : Option Nat) (hs : Nat → Value) (m : Nat → Nat) (f : Nat → Nat → List D)

structure St where
  L : List (Nat × V)
  H : List (Nat × Ch)
  m : Nat

def delH (d : Nat) : List (Nat × Ch) → List (Nat × Ch)
  | [] => []
  | (s, v) :: r => bif Nat.beq s d then delH d r else (s, v) :: delH d r

theorem get_mem {α : Type} {L : List (Nat × α)} {t : Nat} {v : α} (h : get L t = some v) : (t, v) ∈ L := by
  induction L with
  | nil => simp [get] at h
  | cons e r ih =>
    obtain ⟨s, u⟩ := e
    unfold get at h
    cases hc : Nat.beq s t with
    | true =>
      rw [hc] at h
      simp at h
      have := Nat.eq_of_beq_eq_true hc
      subst this; subst h; simp
    | false => rw [hc] at h; simp at h; exact List.mem_cons_of_mem _ (ih h)

theorem mem_delH {H : List (Nat × Ch)} {d t : Nat} {c : Ch} (h : (t, c) ∈ delH d H) : (t, c) ∈ H ∧ t ≠ d := by
  induction H with
  | nil => simp [delH] at h
  | cons e r ih =>
    obtain ⟨s, u⟩ := e
    unfold delH at h
    cases hc : Nat.beq s d with
    | true => rw [hc] at h; simp at h; exact ⟨List.mem_cons_of_mem _ (ih h).1, (ih h).2⟩
    | false =>
      rw [hc] at h
      simp only [cond_false, List.mem_cons, Prod.mk.injEq] at h
      rcases h with ⟨rfl, rfl⟩ | h
      · exact ⟨by simp, fun e => by subst e; simp at hc⟩
      · exact ⟨List.mem_cons_of_mem _ (ih h).1, (ih h).2⟩

theorem mem_del {L : List (Nat × V)} {d t : Nat} {v : V} (h : (t, v) ∈ del d L) : (t, v) ∈ L ∧ t ≠ d ∧ v.gon d = false := by
  induction L with
  | nil => simp [del] at h
  | cons e r ih =>
    obtain ⟨s, u⟩ := e
    unfold del at h
    cases hc : (Nat.beq s d || u.gon d) with
    | true => rw [hc] at h; simp at h; exact ⟨List.mem_cons_of_mem _ (ih h).1, (ih h).2⟩
    | false =>
      rw [hc] at h
      simp only [cond_false, List.mem_cons, Prod.mk.injEq] at h
      simp only [Bool.or_eq_false_iff] at hc
      rcases h with ⟨rfl, rfl⟩ | h
      · exact ⟨by simp, fun e => by subst e; simp at hc, hc.2⟩
      · exact ⟨List.mem_cons_of_mem _ (ih h).1, (ih h).2⟩

/-- The elements of an array or an owned slice, as flat cells. -/
def Elems (F : Nat → Prop) (w : World) (sz n : Nat) (f : Nat → List D) (xs : List Value) : Prop :=
  ∀ i, i < n → (f i).length = sz ∧ ∀ j d, (f i)[j]? = some d → ∃ c, xs[i * sz + j]? = some c ∧ RD F w d c

def ChOK (ρ : Nat → Value) (F : Nat → Prop) (w : World) (id : Nat) : Ch → Prop
  | .box us => ∃ b cs T, ρ id = .pointer (some ⟨b, 0, none⟩) ∧ w.heap[b]? = some (.cells (List.toArray cs) T (0, 0)) ∧ All2 (R1 ρ F w) us cs
  | .arr sz n f => ∃ b cs T, ρ id = .pointer (some ⟨b, 0, none⟩) ∧ w.heap[b]? = some (.cells (List.toArray cs) T (0, 0)) ∧ cs.length = n * sz ∧ Elems F w sz n f cs
  | .vec e sz n f => ∃ xs, w.ownsRow 0 e sz (ρ id) n xs ∧ Elems F w sz n f xs
  | .iter s pos => ∃ b, ρ id = .pointer (some ⟨b, 0, none⟩) ∧ w.heap[b]? = some (.stringIter s pos)
  | .rows e e' sz n hole hs m f => ∃ xs, w.ownsRow 0 e 1 (ρ id) n xs ∧ (∀ i, i < n → hole ≠ some i → xs[i]? = some (hs i) ∧ ∃ ys, w.ownsRow 0 e' sz (hs i) (m i) ys ∧ Elems F w sz (m i) (f i) ys) ∧
      (∀ i b, i < n → hole ≠ some i → blk (hs i) = some b → blk (ρ id) ≠ some b) ∧ (∀ i j b, i < n → j < n → hole ≠ some i → hole ≠ some j → i ≠ j → blk (hs i) = some b → blk (hs j) ≠ some b)

/-- The blocks of a chunk. -/
def bks (ρ : Nat → Value) (id : Nat) : Ch → Nat → Prop
  | .rows _ _ _ n hole hs _ _ => fun b => blk (ρ id) = some b ∨ ∃ k, k < n ∧ hole ≠ some k ∧ blk (hs k) = some b
  | _ => fun b => blk (ρ id) = some b
theorem bks_congr {ρ ρ' : Nat → Value} {i : Nat} {c : Ch} (h : ρ' i = ρ i) : bks ρ' i c = bks ρ i c := by cases c <;> simp only [bks, h]
theorem bks_main {ρ : Nat → Value} {i b : Nat} {c : Ch} (h : blk (ρ i) = some b) : bks ρ i c b := by cases c <;> first | exact h | exact .inl h
/-- A chunk of one block. -/
def plainC : Ch → Bool
  | .rows .. => false
  | _ => true
theorem bks_plain {ρ : Nat → Value} {i b : Nat} {c : Ch} (hp : plainC c = true) (h : bks ρ i c b) : blk (ρ i) = some b := by cases c <;> first | exact h | cases hp

/-- The path of a guarded value holds in a frame. -/
def pcA (tmps : Array Value) (p : List (Nat × Bool)) : Prop := ∀ e ∈ p, tmps[e.1]? = some (.bool e.2)

def RS (tmps : Array Value) (ρ : Nat → Value) (F : Nat → Prop) (w : World) : V → Value → Prop
  | .g p v, x => (pcA tmps p → R3 ρ F w v x) ∧ (¬ pcA tmps p → x = undef)
  | v, x => R3 ρ F w v x

def V.all4 (p : V → Bool) : V → Bool
  | .g _ v => v.all3 p
  | v => v.all3 p
def V.map4 (k : V → V) : V → V
  | .g p v => .g p (v.map3 k)
  | v => v.map3 k

/-- A leaf names chunks below m alone. -/
def fresh (m : Nat) : V → Bool
  | .ptr id _ | .own id | .vptr id _ _ _ => Nat.blt id m
  | _ => true
def names (x : Nat) : V → Bool
  | .ptr id _ | .own id | .vptr id _ _ _ => Nat.beq id x
  | _ => false
def kill (x : Nat) (v : V) : V := bif names x v then .dead else v
def Ch.map (k : V → V) : Ch → Ch
  | .box us => .box (us.map (V.map1 k))
  | c => c
def Ch.all (p : V → Bool) : Ch → Bool
  | .box us => us.all (V.all1 p)
  | _ => true

/-- What the call has kept of the world in which it began: all blocks but those of E. -/
structure Keeps (w0 : World) (E : Nat → Prop) (w : World) : Prop where
  os : w.os = w0.os
  tape : w.tape = w0.tape
  output : w.output = w0.output
  size : w0.heap.size ≤ w.heap.size
  block : ∀ k, k < w0.heap.size → ¬ E k → w.heap[k]? = w0.heap[k]?

/-- A program, and what some of its package-level variables hold for good: (variable, how many cells, these). -/
structure Pg where
  P : Program
  env : List (Nat × Nat × (Nat → Value))

def EnvOK (E : List (Nat × Nat × (Nat → Value))) (F : Nat → Prop) (w : World) : Prop :=
  ∀ g n f, (g, n, f) ∈ E → F g ∧ ∀ j, j < n → w.cell? ⟨g, j, none⟩ = some (f j)

theorem EnvOK.mono {E : List (Nat × Nat × (Nat → Value))} {F F' : Nat → Prop} {w w' : World} (hF : ∀ k, F k → F' k) (hw : ∀ k, F k → w'.heap[k]? = w.heap[k]?) (h : EnvOK E F w) : EnvOK E F' w' :=
  fun g n f hm => ⟨hF g (h g n f hm).1, fun j hj => by rw [← (h g n f hm).2 j hj]; exact World.cell?_of_block (w := w) (hw g (h g n f hm).1)⟩

/-- Of a call: the program, how many slots, the world in which it began, the blocks that it may write, those that it may read for good, the values of the chunks that were handed in; how many of these stay where they are. -/
structure Ctx where
  P : Program
  env : List (Nat × Nat × (Nat → Value))
  n : Nat
  w0 : World
  E : Nat → Prop
  F0 : Nat → Prop
  ρ0 : Nat → Value
  fix : Nat

abbrev Ctx.pg (C : Ctx) : Pg := ⟨C.P, C.env⟩

structure SatW (C : Ctx) (s : St) (a : Act) (w : World) (ρ : Nat → Value) (F : Nat → Prop) : Prop where
  size : a.tmps.size = C.n
  defers : a.defers = []
  slot : ∀ t v, (t, v) ∈ s.L → ∃ x, a.tmps[t]? = some x ∧ RS a.tmps ρ F w v x
  ch : ∀ id c, (id, c) ∈ s.H → ChOK ρ F w id c
  sep : ∀ i j ci cj b, (i, ci) ∈ s.H → (j, cj) ∈ s.H → i ≠ j → bks ρ i ci b → ¬ bks ρ j cj b
  out : ∀ i c b, (i, c) ∈ s.H → bks ρ i c b → ¬ F b
  freshL : ∀ t v, (t, v) ∈ s.L → v.all4 (fresh s.m) = true
  freshH : ∀ i c, (i, c) ∈ s.H → i < s.m ∧ c.all (fresh s.m) = true
  lt : ∀ k, F k → k < w.heap.size
  mine : ∀ i c b, (i, c) ∈ s.H → bks ρ i c b → C.w0.heap.size ≤ b ∨ C.E b
  sub : ∀ k, F k → C.F0 k ∨ C.w0.heap.size ≤ k ∨ C.E k
  base : ∀ k, C.F0 k → F k
  fixd : C.fix ≤ s.m ∧ ∀ i, i < C.fix → ρ i = C.ρ0 i
  keep : Keeps C.w0 C.E w
  env : EnvOK C.env F w

def Sat (C : Ctx) (s : St) (a : Act) (w : World) : Prop := ∃ ρ F, SatW C s a w ρ F

section
variable {ρ ρ' : Nat → Value} {F F' : Nat → Prop} {w w' : World}

theorem R0.one {u : V} {v : Value} (h : R0 ρ F w u v) (hs : ∀ id, u = .own id → v.oneCell' = true) : v.oneCell' = true := by
  cases u with
  | d x => exact RD.one h
  | nils => rw [show v = _ from h]; rfl
  | ptr id off => obtain ⟨b, _, rfl⟩ := h; rfl
  | own id => exact hs id rfl
  | vptr id sz i off => obtain ⟨b, _, rfl⟩ := h; rfl
  | eptr ds => obtain ⟨b, o, cs, rfl, _⟩ := h; rfl
  | dead => exact h
  | _ => exact h.elim
theorem R0.one' {u : V} {v : Value} (h : R0 ρ F w u v) : v.oneCell' = true :=
  h.one fun id e => by subst e; obtain ⟨rfl, a, n, c, e⟩ := h; rw [e]; rfl
theorem R1.one {u : V} {v : Value} (h : R1 ρ F w u v) : v.oneCell' = true := by
  cases u with
  | fn f caps => obtain ⟨cs, rfl, _⟩ := h; rfl
  | d _ => exact R0.one' (ρ := ρ) (F := F) (w := w) (u := .d _) h
  | nils => exact R0.one' (ρ := ρ) (F := F) (w := w) (u := .nils) h
  | ptr _ _ => exact R0.one' (ρ := ρ) (F := F) (w := w) (u := .ptr _ _) h
  | own _ => exact R0.one' (ρ := ρ) (F := F) (w := w) (u := .own _) h
  | vptr _ _ _ _ => exact R0.one' (ρ := ρ) (F := F) (w := w) (u := .vptr _ _ _ _) h
  | eptr _ => exact R0.one' (ρ := ρ) (F := F) (w := w) (u := .eptr _) h
  | dead => exact h
  | _ => exact (show False from h).elim

/-- A leaf that does not name x is kept. -/
theorem R0.keep {x : Nat} (hρ : ∀ id, id ≠ x → ρ' id = ρ id) (hF : ∀ k, F k → F' k) (hw : ∀ k, F k → w'.heap[k]? = w.heap[k]?)
    {u : V} {v : Value} (hx : names x u = false) (h : R0 ρ F w u v) : R0 ρ' F' w' u v := by
  have ne : ∀ id, Nat.beq id x = false → ρ' id = ρ id := fun id e => hρ id (by rintro rfl; simp at e)
  cases u with
  | d d => exact RD.mono hF hw h
  | nils => exact h
  | ptr id off => obtain ⟨b, h1, h2⟩ := h; exact ⟨b, by rw [ne id hx]; exact h1, h2⟩
  | own id => obtain ⟨h1, h2⟩ := h; exact ⟨by rw [ne id hx]; exact h1, by rw [ne id hx]; exact h2⟩
  | vptr id sz i off => obtain ⟨b, h1, h2⟩ := h; exact ⟨b, by rw [ne id hx]; exact h1, h2⟩
  | eptr ds =>
    obtain ⟨b, o, cs, h1, h2, h3⟩ := h
    refine ⟨b, o, cs, h1, hF _ h2, fun j d hd => ⟨?_, RD.mono hF hw (h3 j d hd).2⟩⟩
    rw [← (h3 j d hd).1]
    exact World.cell?_of_block (w := w) (hw b h2)
  | dead => exact h
  | _ => exact h.elim

theorem fresh_names {m x : Nat} {u : V} (hm : m ≤ x) (h : fresh m u = true) : names x u = false := by
  have go : ∀ id, Nat.blt id m = true → Nat.beq id x = false := fun id h => by
    have h1 : id < m := by simpa using h
    cases hb : Nat.beq id x with
    | false => rfl
    | true => have := Nat.eq_of_beq_eq_true hb; omega
  cases u <;> first | rfl | exact go _ h

theorem R0.kill {x : Nat} (hρ : ∀ id, id ≠ x → ρ' id = ρ id) (hF : ∀ k, F k → F' k) (hw : ∀ k, F k → w'.heap[k]? = w.heap[k]?)
    {u : V} {v : Value} (h : R0 ρ F w u v) : R0 ρ' F' w' (kill x u) v := by
  unfold Sx.kill
  cases hn : names x u with
  | true => exact h.one'
  | false => exact h.keep hρ hF hw hn

theorem Elems.keep (hF : ∀ k, F k → F' k) (hw : ∀ k, F k → w'.heap[k]? = w.heap[k]?) {sz n : Nat} {f : Nat → List D} {xs : List Value} (h : Elems F w sz n f xs) : Elems F' w' sz n f xs :=
  fun i hi => ⟨(h i hi).1, fun j d hd => let ⟨c, h1, h2⟩ := (h i hi).2 j d hd; ⟨c, h1, RD.mono hF hw h2⟩⟩

theorem bks_map {ρ : Nat → Value} {i : Nat} {c : Ch} {k : V → V} : bks ρ i (c.map k) = bks ρ i c := by cases c <;> rfl
theorem plain_map {c : Ch} {k : V → V} : plainC (c.map k) = plainC c := by cases c <;> rfl

theorem ownsRow_keep {w w' : World} {e : TypeId} {sz n : Nat} {v : Value} {xs : List Value} (h : w.ownsRow 0 e sz v n xs) (hb : ∀ b, blk v = some b → w'.heap[b]? = w.heap[b]?) : w'.ownsRow 0 e sz v n xs := by
  refine ⟨h.1, ?_⟩
  rcases h.2 with h2 | ⟨g, cap, cur, rfl, h3, h4, h5⟩
  · exact .inl h2
  · exact .inr ⟨g, cap, cur, rfl, h3, by rw [hb g rfl]; exact h4, h5⟩

theorem ChOK.keep {x : Nat} {p : V → Bool} {k : V → V} (hk : ∀ u v, p u = true → R0 ρ F w u v → R0 ρ' F' w' (k u) v) (hF : ∀ k, F k → F' k) (hw : ∀ k, F k → w'.heap[k]? = w.heap[k]?)
    {id : Nat} {c : Ch} (hid : ρ' id = ρ id) (hb : ∀ b, bks ρ id c b → w'.heap[b]? = w.heap[b]?) (hp : c.all p = true) (h : ChOK ρ F w id c) : ChOK ρ' F' w' id (c.map k) := by
  cases c with
  | box us =>
    obtain ⟨b, cs, T, h1, h2, h3⟩ := h
    exact ⟨b, cs, T, hid.trans h1, by rw [hb b (by show blk (ρ id) = some b; rw [h1]; rfl)]; exact h2, h3.imp fun a b ha hab => R1.map hk (by simpa using (List.all_eq_true.1 hp) a ha) hab⟩
  | arr sz n f =>
    obtain ⟨b, cs, T, h1, h2, h3, h4⟩ := h
    exact ⟨b, cs, T, hid.trans h1, by rw [hb b (by show blk (ρ id) = some b; rw [h1]; rfl)]; exact h2, h3, h4.keep hF hw⟩
  | vec e sz n f =>
    obtain ⟨xs, h1, h2⟩ := h
    exact ⟨xs, by rw [hid]; exact ownsRow_keep h1 hb, h2.keep hF hw⟩
  | iter s pos =>
    obtain ⟨b, h1, h2⟩ := h
    exact ⟨b, hid.trans h1, by rw [hb b (by show blk (ρ id) = some b; rw [h1]; rfl)]; exact h2⟩
  | rows e e' sz n hole hs m f =>
    obtain ⟨xs, h1, h2, h3, h4⟩ := h
    refine ⟨xs, by rw [hid]; exact ownsRow_keep h1 fun b e => hb b (.inl e), fun i hi hh => ?_, by rw [hid]; exact h3, h4⟩
    obtain ⟨h5, ys, h6, h7⟩ := h2 i hi hh
    exact ⟨h5, ys, ownsRow_keep h6 fun b e => hb b (.inr ⟨i, hi, hh, e⟩), h7.keep hF hw⟩

theorem ChOK.lt {id : Nat} {c : Ch} (h : ChOK ρ F w id c) {b : Nat} (hb : bks ρ id c b) : b < w.heap.size := by
  have own : ∀ {e : TypeId} {sz n : Nat} {v : Value} {xs : List Value}, w.ownsRow 0 e sz v n xs → blk v = some b → b < w.heap.size := fun h1 hb => by
    rcases h1.2 with ⟨h2, _⟩ | ⟨g, cap, cur, h2, _, h4, _⟩
    · rw [h2] at hb; simp [blk] at hb
    · rw [h2] at hb; simp [blk] at hb; subst hb; exact (Array.getElem?_eq_some_iff.1 h4).1
  cases c with
  | box us => obtain ⟨b', cs, T, h1, h2, _⟩ := h; change blk (ρ id) = some b at hb; rw [h1] at hb; simp [blk] at hb; subst hb; exact (Array.getElem?_eq_some_iff.1 h2).1
  | arr sz n f => obtain ⟨b', cs, T, h1, h2, _⟩ := h; change blk (ρ id) = some b at hb; rw [h1] at hb; simp [blk] at hb; subst hb; exact (Array.getElem?_eq_some_iff.1 h2).1
  | iter s pos => obtain ⟨b', h1, h2⟩ := h; change blk (ρ id) = some b at hb; rw [h1] at hb; simp [blk] at hb; subst hb; exact (Array.getElem?_eq_some_iff.1 h2).1
  | vec e sz n f =>
    obtain ⟨xs, h1, _⟩ := h
    exact own h1 hb
  | rows e e' sz n hole hs m f =>
    obtain ⟨xs, h1, h2, _⟩ := h
    rcases hb with hb | ⟨k, hk, hh, hb⟩
    · exact own h1 hb
    · obtain ⟨_, ys, h3, _⟩ := h2 k hk hh
      exact own h3 hb
end

theorem Keeps.trans {w0 w w' : World} {E : Nat → Prop} (h : Keeps w0 E w) (h' : Keeps w (fun k => ¬ (k < w0.heap.size ∧ ¬ E k)) w') : Keeps w0 E w' :=
  ⟨h'.os.trans h.os, h'.tape.trans h.tape, h'.output.trans h.output, Nat.le_trans h.size h'.size,
   fun k hk he => (h'.block k (Nat.lt_of_lt_of_le hk h.size) (by simp [hk, he])).trans (h.block k hk he)⟩

theorem all1_map {p q : V → Bool} {k : V → V} (hk : ∀ u, p u = true → q (k u) = true ∧ (k u).leaf = true) {u : V} (hu : u.leaf = true ∨ ∃ f c, u = .fn f c) (h : u.all1 p = true) : (u.map1 k).all1 q = true := by
  have go : p u = true → (k u).all1 q = true := fun hp => by
    obtain ⟨h1, h2⟩ := hk u hp
    generalize k u = y at h1 h2
    cases y <;> first | exact h1 | cases h2
  cases u with
  | fn f caps =>
    simp only [V.map1, V.all1, List.all_map, List.all_eq_true, Function.comp] at *
    exact fun x hx => (hk x (h x hx)).1
  | agg _ => simp [V.leaf] at hu
  | tup _ => simp [V.leaf] at hu
  | g _ _ => simp [V.leaf] at hu
  | _ => exact go h

section
variable {C : Ctx} {s : St} {a : Act} {w w' : World} {ρ ρ' : Nat → Value} {F F' : Nat → Prop}

theorem RS_of {tmps : Array Value} {v : V} {x : Value} (h : R3 ρ F w v x) : RS tmps ρ F w v x := by
  cases v <;> first | exact h | exact (show False from h).elim

/-- The world has turned, chunks may have gone, leaves were turned by k. -/
theorem SatW.change (h : SatW C s a w ρ F) {L' : List (Nat × V)} {H' : List (Nat × Ch)} {m' : Nat} (k : V → V)
    (hk : ∀ u v, fresh s.m u = true → R0 ρ F w u v → R0 ρ' F' w' (k u) v)
    (hL : ∀ t v', (t, v') ∈ L' → (∃ v, (t, v) ∈ s.L ∧ v' = v.map4 k) ∧ v'.all4 (fresh m') = true)
    (hH : ∀ i c', (i, c') ∈ H' → (∃ c, (i, c) ∈ s.H ∧ c' = c.map k) ∧ c'.all (fresh m') = true ∧ ρ' i = ρ i ∧ ∀ b, bks ρ i c' b → w'.heap[b]? = w.heap[b]? ∧ ¬ F' b)
    (hF : ∀ k, F k → F' k) (hw : ∀ k, F k → w'.heap[k]? = w.heap[k]?) (hlt : ∀ k, F' k → k < w'.heap.size) (hkeep : Keeps C.w0 C.E w') (hm : s.m ≤ m') (hsub : ∀ k, F' k → C.F0 k ∨ C.w0.heap.size ≤ k ∨ C.E k) (hfix : ∀ i, i < C.fix → ρ' i = C.ρ0 i) :
    SatW C { L := L', H := H', m := m' } a w' ρ' F' where
  size := h.size
  defers := h.defers
  slot t v' hv' := by
    obtain ⟨⟨v, hv, rfl⟩, _⟩ := hL t v' hv'
    obtain ⟨x, hx, hr⟩ := h.slot t v hv
    refine ⟨x, hx, ?_⟩
    have hf := h.freshL t v hv
    cases v with
    | g p u => exact ⟨fun hp => R3.map hk hf (hr.1 hp), hr.2⟩
    | d y => exact RS_of (R3.map (u := .d y) hk hf hr)
    | nils => exact RS_of (R3.map (u := .nils) hk hf hr)
    | ptr y z => exact RS_of (R3.map (u := .ptr y z) hk hf hr)
    | own y => exact RS_of (R3.map (u := .own y) hk hf hr)
    | vptr y z i j => exact RS_of (R3.map (u := .vptr y z i j) hk hf hr)
    | eptr y => exact RS_of (R3.map (u := .eptr y) hk hf hr)
    | fn f y => exact RS_of (R3.map (u := .fn f y) hk hf hr)
    | agg y => exact RS_of (R3.map (u := .agg y) hk hf hr)
    | tup y => exact RS_of (R3.map (u := .tup y) hk hf hr)
    | dead => exact RS_of (R3.map (u := .dead) hk hf hr)
  ch i c' hc' := by
    obtain ⟨⟨c, hc, rfl⟩, _, hi, hb⟩ := hH i c' hc'
    exact ChOK.keep (x := 0) (p := fresh s.m) hk hF hw hi (fun b e => (hb b (by rw [bks_map]; exact e)).1) (h.freshH i c hc).2 (h.ch i c hc)
  sep i j ci cj b hi hj hij e := by
    obtain ⟨⟨c, hc, rfl⟩, _, e1, hb⟩ := hH i ci hi
    obtain ⟨⟨c2, hc2, rfl⟩, _, e2, _⟩ := hH j cj hj
    rw [bks_congr e1, bks_map] at e
    rw [bks_congr e2, bks_map]
    exact h.sep i j c c2 b hc hc2 hij e
  out i ci b hi e := by
    obtain ⟨_, _, e1, hb⟩ := hH i ci hi
    exact (hb b (by rw [← bks_congr e1]; exact e)).2
  freshL t v' hv' := (hL t v' hv').2
  freshH i c' hc' := by
    obtain ⟨⟨c, hc, rfl⟩, hf, _⟩ := hH i c' hc'
    exact ⟨Nat.lt_of_lt_of_le (h.freshH i c hc).1 hm, hf⟩
  lt := hlt
  mine i c' b hi e := by
    obtain ⟨⟨c, hc, rfl⟩, _, e1, _⟩ := hH i c' hi
    rw [bks_congr e1, bks_map] at e
    exact h.mine i c b hc e
  sub := hsub
  base k hk := hF k (h.base k hk)
  fixd := ⟨Nat.le_trans h.fixd.1 hm, hfix⟩
  keep := hkeep
  env := h.env.mono hF hw

theorem SatW.addCh (h : SatW C s a w ρ F) {x : Nat} {c : Ch} (hc : ChOK ρ F w x c) (hout : ∀ b, bks ρ x c b → ¬ F b ∧ ∀ i ci, (i, ci) ∈ s.H → i ≠ x → ¬ bks ρ i ci b) (hx : x < s.m) (hcf : c.all (fresh s.m) = true) (hmine : ∀ b, bks ρ x c b → C.w0.heap.size ≤ b ∨ C.E b) :
    SatW C { s with H := (x, c) :: s.H } a w ρ F where
  size := h.size
  defers := h.defers
  slot := h.slot
  ch i c' hi := by
    rcases List.mem_cons.1 hi with e | hi
    · obtain ⟨rfl, rfl⟩ := Prod.mk.inj e; exact hc
    · exact h.ch i c' hi
  sep i j ci cj b hi hj hij e := by
    rcases List.mem_cons.1 hi with e1 | hi'
    · obtain ⟨rfl, rfl⟩ := Prod.mk.inj e1
      rcases List.mem_cons.1 hj with e2 | hj'
      · obtain ⟨rfl, rfl⟩ := Prod.mk.inj e2; exact (hij rfl).elim
      · exact (hout b e).2 j cj hj' (Ne.symm hij)
    · rcases List.mem_cons.1 hj with e2 | hj'
      · obtain ⟨rfl, rfl⟩ := Prod.mk.inj e2
        exact fun e' => (hout b e').2 i ci hi' hij e
      · exact h.sep i j ci cj b hi' hj' hij e
  out i ci b hi e := by
    rcases List.mem_cons.1 hi with e1 | hi
    · obtain ⟨rfl, rfl⟩ := Prod.mk.inj e1; exact (hout b e).1
    · exact h.out i ci b hi e
  freshL := h.freshL
  freshH i ci hi := by
    rcases List.mem_cons.1 hi with e1 | hi
    · obtain ⟨rfl, rfl⟩ := Prod.mk.inj e1; exact ⟨hx, hcf⟩
    · exact h.freshH i ci hi
  lt := h.lt
  mine i ci b hi e := by
    rcases List.mem_cons.1 hi with e1 | hi
    · obtain ⟨rfl, rfl⟩ := Prod.mk.inj e1; exact hmine b e
    · exact h.mine i ci b hi e
  sub := h.sub
  base := h.base
  fixd := h.fixd
  keep := h.keep
  env := h.env

theorem pcA_put {a : Act} {d : Nat} {x : Value} {p : List (Nat × Bool)} (hp : (p.any fun e => Nat.beq e.1 d) = false) : pcA (a.put (some d) x).tmps p ↔ pcA a.tmps p := by
  unfold pcA
  refine forall_congr' fun e => forall_congr' fun he => ?_
  have : e.1 ≠ d := by
    intro hed
    have := List.any_eq_false.1 hp e he
    simp [hed] at this
  simp [Act.put, Array.getElem?_setIfInBounds, Ne.symm this]

theorem RS_put {t d : Nat} {v : V} {x y : Value} (hg : v.gon d = false) (h : RS a.tmps ρ F w v y) : RS (a.put (some d) x).tmps ρ F w v y := by
  cases v with
  | g p u => exact ⟨fun hp => h.1 ((pcA_put hg).1 hp), fun hp => h.2 fun hp' => hp ((pcA_put hg).2 hp')⟩
  | _ => exact h

theorem SatW.putS (h : SatW C s a w ρ F) {d : Nat} {v : V} {x : Value} (hd : d < C.n) (hv : RS (a.put (some d) x).tmps ρ F w v x) (hf : v.all4 (fresh s.m) = true) :
    SatW C { s with L := put s.L d v } (a.put (some d) x) w ρ F where
  size := by simp [Act.put, h.size]
  defers := h.defers
  slot t u hu := by
    rcases List.mem_cons.1 hu with e | hu
    · obtain ⟨rfl, rfl⟩ := Prod.mk.inj e
      refine ⟨x, ?_, hv⟩
      have : t < a.tmps.size := by rw [h.size]; exact hd
      simp [Act.put, this]
    · obtain ⟨h1, h2, h3⟩ := mem_del hu
      obtain ⟨y, hy, hr⟩ := h.slot t u h1
      refine ⟨y, ?_, RS_put (t := t) h3 hr⟩
      simp [Act.put, Array.getElem?_setIfInBounds, Ne.symm h2, hy]
  ch := h.ch
  sep := h.sep
  out := h.out
  freshL t u hu := by
    rcases List.mem_cons.1 hu with e | hu
    · obtain ⟨rfl, rfl⟩ := Prod.mk.inj e; exact hf
    · exact h.freshL t u (mem_del hu).1
  freshH := h.freshH
  lt := h.lt
  mine := h.mine
  sub := h.sub
  base := h.base
  fixd := h.fixd
  keep := h.keep
  env := h.env

/-- A value is written into a slot. -/
theorem SatW.put (h : SatW C s a w ρ F) {d : Nat} {v : V} {x : Value} (hd : d < C.n) (hv : R3 ρ F w v x) (hf : v.all3 (fresh s.m) = true) :
    SatW C { s with L := put s.L d v } (a.put (some d) x) w ρ F :=
  h.putS hd (RS_of hv) (by cases v <;> first | exact hf | exact (show False from hv).elim)
end
end Go.Sx
