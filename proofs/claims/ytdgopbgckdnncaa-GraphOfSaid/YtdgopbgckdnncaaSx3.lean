/-
  Sx, part 3: the other operations that only read.
-/
import Derived.Test.YtdgopbgckdnncaaSx2
set_option linter.unusedVariables false
set_option linter.unusedSimpArgs false
namespace Go.Sx

def unE (ck : Bool) (op : UnOp) : V → Option (V × List Prop)
  | .d (.bool b) => match op with
    | .not => some (vb (!b), [])
    | _ => none
  | .d (.int k n) => match op with
    | .neg => some (num ck k (0 - n))
    | .xor => some (.d (.int k (bitI .xor k (if k.signed then -1 else k.max) n)), [])
    | _ => none
  | _ => none

/-- How many rows. -/
def rowsN (H : List (Nat × Ch)) : V → Option Nat
  | .own id => match get H id with
    | some (.rows _ _ _ n _ _ _ _) => some n
    | _ => none
  | _ => none

/-- What a slice value holds. -/
def parts (H : List (Nat × Ch)) : V → Option (Nat × Nat × (Nat → List D))
  | .d (.sl sz n f) => some (sz, n, f)
  | .own id => match get H id with
    | some (.vec _ sz n f) => some (sz, n, f)
    | _ => none
  | _ => none

def dInt : List D → Int
  | [.int _ n] => n
  | _ => 0
def isU8 : List D → Prop
  | [.int .u8 _] => True
  | _ => False

def bytesOf (n : Nat) (f : Nat → List D) : ByteArray := ⟨((List.range n).map fun i => UInt8.ofNat (dInt (f i)).toNat).toArray⟩

def convE (g : Cfg) (ck : Bool) (H : List (Nat × Ch)) (src dst : TypeId) (x : V) : Option (V × List Prop) :=
  match lk g src, lk g dst with
  | some ts, some td => match td.kind, x with
    | .int k', .d (.int _ n) => some (num ck k' n)
    | .str, .d (.str s) => some (vs s, [])
    | .str, .nils => match ts.kind with
      | .slice e => match lk g e with
        | some te => match te.kind with
          | .int .u8 => some (vs .empty, [])
          | _ => none
        | _ => none
      | _ => none
    | .str, x => match ts.kind with
      | .slice e => match lk g e with
        | some te => match te.kind, parts H x with
          | .int .u8, some (sz, n, f) => bif Nat.beq sz 1 then some (vs (bytesOf n f), [∀ i, i < n → isU8 (f i)]) else none
          | _, _ => none
        | _ => none
      | _ => none
    | _, _ => none
  | _, _ => none

/-- Byte i of a string. -/
def sb (s : ByteArray) (i : Nat) : Int := ((s.data.toList.getD i 0).toNat : Int)

def idxE (g : Cfg) (t : TypeId) (x i : V) : Option (V × List Prop) :=
  match lk g t, x, i with
  | some ti, .d (.str s), .d (.int _ n) => match ti.kind with
    | .str => some (.d (.int .u8 (sb s n.toNat)), [0 ≤ n ∧ n < (s.size : Int)])
    | _ => none
  | _, _, _ => none

def isz (g : Cfg) (e : TypeId) (sz : Nat) : Bool :=
  match lk g e with
  | some te => Nat.beq te.size sz
  | none => false

def iaE (g : Cfg) (H : List (Nat × Ch)) (t : TypeId) (x i : V) : Option (V × List Prop) :=
  match lk g t, i with
  | some ti, .d (.int _ k) => match ti.kind, x with
    | .slice e, .d (.sl sz n f) => bif isz g e sz then some (.eptr (f k.toNat), [0 ≤ k ∧ k < (n : Int)]) else none
    | .slice e, .own id => match get H id with
      | some (.vec _ sz n _) => bif isz g e sz then some (.vptr id sz k.toNat 0, [0 ≤ k ∧ k < (n : Int)]) else none
      | some (.rows _ _ _ n _ _ _ _) => bif isz g e 1 then some (.vptr id 1 k.toNat 0, [0 ≤ k ∧ k < (n : Int)]) else none
      | _ => none
    | .array n e, .ptr id off => match get H id with
      | some (.arr sz n' _) => bif isz g e sz && Nat.beq n n' && Nat.beq off 0 then some (.vptr id sz k.toNat 0, [0 ≤ k ∧ k < (n : Int)]) else none
      | _ => none
    | _, _ => none
  | _, _ => none

def faE (g : Cfg) (t : TypeId) (x : V) (fld : Nat) : Option (V × List Prop) :=
  match lk g t with
  | some ti => match ti.kind with
    | .struct fs => match fs[fld]? with
      | some (off, ty) => bif isz g ty 0 then none else match lk g ty with
        | none => none
        | some _ => match x with
          | .ptr id o => some (.ptr id (o + off), [])
          | .vptr id sz i o => some (.vptr id sz i (o + off), [])
          | .eptr ds => some (.eptr (ds.drop off), [])
          | _ => none
      | none => none
    | _ => none
  | none => none

def isAggK : TK → Bool
  | .struct _ | .array _ _ => true
  | _ => false

/-- Cells put together to a value of a type. -/
def asV (ti : TI) (us : List V) : Option V :=
  bif isAggK ti.kind then
    bif Nat.beq (us.take ti.size).length ti.size then some (.agg (us.take ti.size)) else none
  else match us with
    | u :: _ => some u
    | [] => none

def ldE (g : Cfg) (H : List (Nat × Ch)) (t : TypeId) (x : V) : Option (V × List Prop) :=
  match lk g t with
  | none => none
  | some ti => match x with
    | .eptr ds => match asV ti (ds.map .d) with
      | some v => some (v, [])
      | none => none
    | .ptr id o => match get H id with
      | some (.box us) => match asV ti (us.drop o) with
        | some v => some (v, [])
        | none => none
      | _ => none
    | .vptr id sz i o => match get H id with
      | some (.vec _ sz' n f) => bif Nat.beq sz sz' then match asV ti (((f i).drop o).map .d) with
        | some v => some (v, [i < n])
        | none => none
        else none
      | some (.arr sz' n f) => bif Nat.beq sz sz' then match asV ti (((f i).drop o).map .d) with
        | some v => some (v, [i < n])
        | none => none
        else none
      | _ => none
    | _ => none

def fldE (g : Cfg) (t : TypeId) (x : V) (fld : Nat) : Option (V × List Prop) :=
  match lk g t, x with
  | some ti, .agg us => match ti.kind with
    | .struct fs => match fs[fld]? with
      | some (off, ty) => match lk g ty with
        | some ty' => match asV ty' (us.drop off) with
          | some v => some (v, [])
          | none => none
        | none => none
      | none => none
    | _ => none
  | _, _ => none

def lenE (g : Cfg) (H : List (Nat × Ch)) (t : TypeId) (x : V) : Option (V × List Prop) :=
  match lk g t with
  | none => none
  | some ti => match ti.kind, x with
    | .str, .d (.str s) => some (vi s.size, [])
    | .slice _, .nils => some (vi ((0 : Nat) : Int), [])
    | .slice _, x => match parts H x with
      | some (_, n, _) => some (vi (n : Int), [])
      | none => match rowsN H x with
        | some n => some (vi (n : Int), [])
        | none => none
    | .array n _, _ => some (vi (n : Int), [])
    | _, _ => none

/-- The bounds of a slice expression: from, to. -/
def bnds (n : Nat) (lo hi : Option V) : Option (Int × Int × List Prop) :=
  match lo, hi with
  | none, none => some (0, (n : Int), [])
  | some (.d (.int _ l)), none => some (l, (n : Int), [0 ≤ l ∧ l ≤ (n : Int)])
  | none, some (.d (.int _ h)) => some (0, h, [0 ≤ h ∧ h ≤ (n : Int)])
  | some (.d (.int _ l)), some (.d (.int _ h)) => some (l, h, [0 ≤ l ∧ l ≤ h ∧ h ≤ (n : Int)])
  | _, _ => none

def slcE (g : Cfg) (t : TypeId) (x : V) (lo hi : Option V) : Option (V × List Prop) :=
  match lk g t with
  | none => none
  | some ti => match ti.kind, x with
    | .str, .d (.str s) => match bnds s.size lo hi with
      | some (l, h, p) => some (vs (s.extract l.toNat h.toNat), p)
      | none => none
    | .slice e, .d (.sl sz n f) => bif isz g e sz then match bnds n lo hi with
      | some (l, h, p) => some (.d (.sl sz (h.toNat - l.toNat) (fun k => f (l.toNat + k))), p)
      | none => none
      else none
    | _, _ => none

/-- A slice expression of three indices: only from the beginning, within what is there. -/
def slc3E (g : Cfg) (t : TypeId) (x : V) (lo hi : Option V) (mx : V) : Option (V × List Prop) :=
  match lk g t with
  | none => none
  | some ti => match ti.kind, x, lo, hi, mx with
    | .slice e, .d (.sl sz n f), none, some (.d (.int _ h)), .d (.int _ m) => bif isz g e sz then some (.d (.sl sz h.toNat f), [0 ≤ h ∧ h ≤ m ∧ m ≤ (n : Int)]) else none
    | _, _, _, _, _ => none

def leaves : List V → Bool
  | [] => true
  | v :: r => v.leaf && leaves r

def evs (L : List (Nat × V)) (q : List (Nat × Bool)) : List Operand → Option (List V)
  | [] => some []
  | x :: r => match ev L q x with
    | none => none
    | some v => match evs L q r with
      | none => none
      | some us => some (v :: us)

def evo (L : List (Nat × V)) (q : List (Nat × Bool)) : Option Operand → Option (Option V)
  | none => some none
  | some x => match ev L q x with
    | none => none
    | some v => some (some v)

def maxE (a b : V) : Option (V × List Prop) :=
  match a, b with
  | .d (.int k x), .d (.int _ y) => some (.d (.int k (if y > x then y else x)), [])
  | _, _ => none
def minE (a b : V) : Option (V × List Prop) :=
  match a, b with
  | .d (.int k x), .d (.int _ y) => some (.d (.int k (if y < x then y else x)), [])
  | _, _ => none

def isTrue : Operand → Bool
  | .const (.bool b) => b
  | _ => false
def isFalse : Operand → Bool
  | .const (.bool b) => !b
  | _ => false

/-- The path of a slot: that of the guard under which it was written. -/
def pathOf (L : List (Nat × V)) (t : Nat) : List (Nat × Bool) :=
  match get L t with
  | some (.g p _) => p
  | _ => []

def pickE (L : List (Nat × V)) (q : List (Nat × Bool)) (c a b : Operand) : Option (V × List Prop) :=
  match c with
  | .tmp t => match ev L q c with
    | some (.d (.bool x)) =>
      bif isTrue a then match ev L (pathOf L t ++ [(t, false)]) b with
        | some (.d (.bool y)) => some (vb (x || y), [])
        | _ => none
      else bif isFalse b then match ev L (pathOf L t ++ [(t, true)]) a with
        | some (.d (.bool y)) => some (vb (x && y), [])
        | _ => none
      else none
    | _ => none
  | _ => none


/-- WHAT AN OPERATION THAT ONLY READS YIELDS. -/
def rdE (g : Cfg) (ck : Bool) (s : St) (q : List (Nat × Bool)) : Op → Option (V × List Prop)
  | .move x | .assign x => match ev s.L q x with
    | some v => some (v, [])
    | none => none
  | .pick c a b => pickE s.L q c a b
  | .binOp op t x y _ => match ev s.L q x, ev s.L q y with
    | some u, some v => binE g ck op t u v
    | _, _ => none
  | .unOp op _ x => match ev s.L q x with
    | some u => unE ck op u
    | none => none
  | .convert src dst x => match ev s.L q x with
    | some u => convE g ck s.H src dst u
    | none => none
  | .index t x i => match ev s.L q x, ev s.L q i with
    | some u, some v => idxE g t u v
    | _, _ => none
  | .indexAddr t x i => match ev s.L q x, ev s.L q i with
    | some u, some v => iaE g s.H t u v
    | _, _ => none
  | .fieldAddr t x f => match ev s.L q x with
    | some u => faE g t u f
    | none => none
  | .field t x f => match ev s.L q x with
    | some u => fldE g t u f
    | none => none
  | .load t x => match ev s.L q x with
    | some u => ldE g s.H t u
    | none => none
  | .slice t x lo hi none => match ev s.L q x, evo s.L q lo, evo s.L q hi with
    | some u, some l, some h => slcE g t u l h
    | _, _, _ => none
  | .slice t x lo hi (some mx) => match ev s.L q x, evo s.L q lo, evo s.L q hi, ev s.L q mx with
    | some u, some l, some h, some m => slc3E g t u l h m
    | _, _, _, _ => none
  | .extract x i => match ev s.L q x with
    | some (.tup us) => match us[i]? with
      | some v => some (v, [])
      | none => none
    | _ => none
  | .makeFunc (.func f) first caps => match first.toList, evs s.L q caps.toList with
    | [], some us => bif leaves us then some (.fn f us, []) else none
    | _, _ => none
  | .call c => match c.callee with
    | .builtin b => match b, evs s.L q c.args.toList, c.argTypes.toList with
      | .len, some [u], [t] => lenE g s.H t u
      | .max, some [u, v], _ => maxE u v
      | .min, some [u, v], _ => minE u v
      | _, _, _ => none
    | _ => none
  | _ => none
end Go.Sx
