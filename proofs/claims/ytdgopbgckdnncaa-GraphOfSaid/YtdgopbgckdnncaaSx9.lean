/-
  Sx, part 9: operations that make or write memory: the machine's rules.
-/
import Derived.Test.YtdgopbgckdnncaaSx8
set_option linter.unusedVariables false
set_option linter.unusedSimpArgs false
namespace Go.Sx

def cellsOf : V → Option (List V)
  | .agg us => some us
  | .tup _ => none
  | .g .. => none
  | v => some [v]

def asD : V → Option D
  | .d x => some x
  | .nils => some (.sl 0 0 fun _ => [])
  | _ => none

def dList : List V → Option (List D)
  | [] => some []
  | v :: r => match asD v with
    | none => none
    | some d => match dList r with
      | none => none
      | some ds => some (d :: ds)

def setL {α : Type} : List α → Nat → List α → Option (List α)
  | us, _, [] => some us
  | _ :: us, 0, c :: cs => match setL us 0 cs with
    | none => none
    | some r => some (c :: r)
  | u :: us, o + 1, cs => match setL us o cs with
    | none => none
    | some r => some (u :: r)
  | [], _, _ :: _ => none

def iteD (c : Prop) [Decidable c] : D → D → D
  | .int k a, .int k' b => bif kbeq k k' then .int k (if c then a else b) else if c then .int k a else .int k' b
  | .bool a, .bool b => .bool (if c then a else b)
  | .str a, .str b => .str (if c then a else b)
  | .sl z n f, .sl z' n' f' => bif Nat.beq z z' then .sl z (if c then n else n') (if c then f else f') else if c then .sl z n f else .sl z' n' f'
  | a, b => if c then a else b

def zipIte (c : Prop) [Decidable c] : List D → List D → List D
  | a :: as, b :: bs => iteD c a b :: zipIte c as bs
  | as, bs => if c then as else bs

theorem iteD_pos {c : Prop} [Decidable c] (h : c) (a b : D) : iteD c a b = a := by
  unfold iteD
  split
  · cases hk : kbeq _ _
    · simp [h]
    · simp [h]
  · simp [h]
  · simp [h]
  · cases hk : Nat.beq _ _
    · simp [h]
    · simp [h]
  · simp [h]
theorem iteD_neg {c : Prop} [Decidable c] (h : ¬ c) (a b : D) : iteD c a b = b := by
  unfold iteD
  split
  · cases hk : kbeq _ _
    · simp [h]
    · have := kbeq_eq hk; subst this; simp [h]
  · simp [h]
  · simp [h]
  · cases hk : Nat.beq _ _
    · simp [h]
    · have := Nat.eq_of_beq_eq_true hk; subst this; simp [h]
  · simp [h]
theorem zipIte_pos {c : Prop} [Decidable c] (h : c) : ∀ as bs, zipIte c as bs = as
  | a :: as, b :: bs => by simp [zipIte, iteD_pos h, zipIte_pos h as bs]
  | [], bs => by simp [zipIte, h]
  | _ :: _, [] => by simp [zipIte, h]
theorem zipIte_neg {c : Prop} [Decidable c] (h : ¬ c) : ∀ as bs, zipIte c as bs = bs
  | a :: as, b :: bs => by simp [zipIte, iteD_neg h, zipIte_neg h as bs]
  | [], bs => by simp [zipIte, h]
  | _ :: _, [] => by simp [zipIte, h]

/-- f, then h behind its first n. -/
def app (n : Nat) (f h : Nat → List D) : Nat → List D := fun k => zipIte (k < n) (f k) (h (k - n))
/-- f, but ds from cell o of element i on. -/
def put2 (f : Nat → List D) (i o : Nat) (ds : List D) : Nat → List D := fun k => match setL (f k) o ds with
  | some l => zipIte (k = i) l (f k)
  | none => f k

def tab : List (List D) → Nat → List D
  | [x] => fun _ => x
  | xs => fun k => xs.getD k []

def fillD (sz : Nat) : List (List D) → List (Nat × List D) → Option (List (List D))
  | xs, [] => some xs
  | xs, (i, ds) :: r => bif Nat.beq ds.length sz && Nat.blt i xs.length then fillD sz (xs.set i ds) r else none

def evp (L : List (Nat × V)) : List (Nat × Operand) → Option (List (Nat × List D))
  | [] => some []
  | (i, x) :: r => match ev L [] x with
    | none => none
    | some v => match cellsOf v with
      | none => none
      | some us => match dList us with
        | none => none
        | some ds => match evp L r with
          | none => none
          | some q => some ((i, ds) :: q)

def newCh (s : St) (d : Nat) (v : V) (c : Ch) : St := { L := put s.L d v, H := (s.m, c) :: s.H, m := s.m + 1 }

def big : Nat := 140737488355328

/-- Where an owned slice's element cells are given by ti. -/
def sliceE (g : Cfg) (t : TypeId) : Option (TypeId × TI) :=
  match lk g t with
  | some ti => match ti.kind with
    | .slice e => match lk g e with
      | some te => match te.kind with
        | .array _ _ => none
        | _ => some (e, te)
      | none => none
    | _ => none
  | none => none

/-- A type of slices: of what. -/
def isSl (te : TI) : Option TypeId :=
  match te.kind, te.zero with
  | .slice e', [.nils] => some e'
  | _, _ => none

def appE (g : Cfg) (s : St) (d : Nat) (t t' : TypeId) (x y : V) : Option (St × List Prop) :=
  bif Nat.beq t t' then
    match sliceE g t with
    | none => none
    | some (e, te) => match x with
      | .nils => match parts s.H y with
        | some (sz, m, h) => bif Nat.beq sz te.size && Nat.ble 1 sz then
            some (newCh s d (.own s.m) (.vec e sz m h), [m * te.bytes ≤ big ∧ m ≤ big]) else none
        | none => none
      | .own id => match get s.H id with
        | some (.vec e' sz n f) => match y with
          | .nils => bif Nat.beq e e' && Nat.beq sz te.size then some ({ s with L := put s.L d (.own id) }, []) else none
          | y => match parts s.H y with
            | some (sz', m, h) => bif Nat.beq e e' && Nat.beq sz te.size && Nat.beq sz' sz && Nat.ble 1 sz && !(names id y) && Nat.ble g.fix id then
                some ({ L := put (mapL (kill id) s.L) d (.own id), H := (id, .vec e sz (n + m) (app n f h)) :: mapH (kill id) (delH id s.H), m := s.m }, [(n + m) * te.bytes ≤ big ∧ n + m ≤ big]) else none
            | none => none
        | _ => none
      | _ => none
  else none

def stE (g : Cfg) (s : St) (t : TypeId) (p v : V) : Option (St × List Prop) :=
  match lk g t, cellsOf v with
  | some ti, some cs => bif Nat.beq cs.length ti.size then
      match p with
      | .ptr id o => match get s.H id with
        | some (.box us) => match setL us o cs with
          | some us' => some ({ s with H := (id, .box us') :: delH id s.H }, [])
          | none => none
        | _ => none
      | .vptr id sz i o => match get s.H id, dList cs with
        | some (.vec e sz' n f), some ds => bif Nat.beq sz sz' then
            some ({ s with H := (id, .vec e sz n (put2 f i o ds)) :: delH id s.H }, [i < n ∧ o + ds.length ≤ sz]) else none
        | some (.arr sz' n f), some ds => bif Nat.beq sz sz' then
            some ({ s with H := (id, .arr sz n (put2 f i o ds)) :: delH id s.H }, [i < n ∧ o + ds.length ≤ sz]) else none
        | _, _ => none
      | _ => none
    else none
  | _, _ => none

/-- WHAT AN OPERATION THAT MAKES OR WRITES MEMORY DOES. -/
def efE (g : Cfg) (s : St) (dst : Option Nat) : Op → Option (St × List Prop)
  | .box _ x => match dst, ev s.L [] x with
    | some d, some v => match cellsOf v with
      | some us => bif Nat.blt d g.n then some (newCh s d (.ptr s.m 0) (.box us), []) else none
      | none => none
    | _, _ => none
  | .alloc t => match dst, lk g t with
    | some d, some ti => bif Nat.blt d g.n then match ti.kind with
        | .array n e => match dList ti.zero, lk g e with
          | some ds, some te => bif Nat.beq ds.length te.size then some (newCh s d (.ptr s.m 0) (.arr te.size n fun _ => ds), []) else none
          | _, _ => none
        | _ => some (newCh s d (.ptr s.m 0) (.box ti.zero), [])
      else none
    | _, _ => none
  | .store t p x => match dst, ev s.L [] p, ev s.L [] x with
    | none, some u, some v => stE g s t u v
    | _, _, _ => none
  | .buildSlice t len ps => match dst, sliceE g t, evp s.L ps.toList with
    | some d, some (e, te), some qs => match dList te.zero with
      | some zs => match fillD te.size (List.replicate len zs) qs with
        | some xs => bif Nat.blt d g.n && Nat.ble (len * te.size) 16777216 && Nat.ble len 16777216 && Nat.beq zs.length te.size then some (newCh s d (.own s.m) (.vec e te.size len (tab xs)), []) else none
        | none => none
      | none => none
    | _, _, _ => none
  | .makeSlice t l c => match dst, sliceE g t, ev s.L [] l, ev s.L [] c with
    | some d, some (e, te), some (.d (.int _ n)), some (.d (.int _ k)) => match isSl te with
     | some e' => match lk g e' with
      | some te' => bif Nat.blt d g.n && Nat.beq te.size 1 then some (newCh s d (.own s.m) (.rows e e' te'.size n.toNat none (fun _ => .slice none 0 0) (fun _ => 0) fun _ _ => []), [0 ≤ n ∧ n ≤ k ∧ k.toNat * te.bytes ≤ big ∧ k.toNat ≤ big]) else none
      | none => none
     | none => match dList te.zero with
      | some zs => bif Nat.blt d g.n && Nat.beq zs.length te.size then some (newCh s d (.own s.m) (.vec e te.size n.toNat fun _ => zs), [0 ≤ n ∧ n ≤ k ∧ k.toNat * te.bytes ≤ big ∧ k.toNat ≤ big]) else none
      | none => none
    | _, _, _, _ => none
  | .range t x => match dst, lk g t, ev s.L [] x with
    | some d, some ti, some (.d (.str b)) => match ti.kind with
      | .str => bif Nat.blt d g.n then some (newCh s d (.ptr s.m 0) (.iter b 0), []) else none
      | _ => none
    | _, _, _ => none
  | .call c => match dst, c.callee with
    | some d, .builtin .append => match evs s.L [] c.args.toList, c.argTypes.toList with
      | some [x, y], [t, t'] => bif Nat.blt d g.n then appE g s d t t' x y else none
      | _, _ => none
    | _, _ => none
  | _ => none
end Go.Sx
