/-
  Sx, part 2: the type table, and operations that only read: what they yield, and why.
-/
import Derived.Test.YtdgopbgckdnncaaSx1
set_option linter.unusedVariables false
set_option linter.unusedSimpArgs false
namespace Go.Sx

inductive TK where
  | int (k : IntKind) | bool | str | slice (e : TypeId) | struct (fs : List (Nat × TypeId)) | array (n : Nat) (e : TypeId) | other

structure TI where
  kind : TK
  size : Nat
  bytes : Nat
  zero : List V

def litV : V → Value → Prop
  | .d (.int k n), c => c = .int k n
  | .d (.bool b), c => c = .bool b
  | .d (.str s), c => c = .string s
  | .nils, c => c = .slice none 0 0
  | .dead, c => c.oneCell' = true
  | _, _ => False

def kindOK (P : Program) (t : TypeId) : TK → Prop
  | .int k => P.underlying t = some (.int k)
  | .bool => P.underlying t = some .bool
  | .str => P.underlying t = some .string
  | .slice e => P.underlying t = some (.slice e)
  | .struct fs => ∃ fields : Array Field, P.underlying t = some (.struct fields) ∧ fields.toList.map (fun f => (f.offset, f.type)) = fs
  | .array n e => P.underlying t = some (.array n e)
  | .other => ∃ d, P.underlying t = some d ∧ (match d with | .struct _ | .array _ _ => False | _ => True)

structure TI.OK (P : Program) (t : TypeId) (ti : TI) : Prop where
  und : kindOK P t ti.kind
  info : ∃ i z, P.info? t = some i ∧ i.size = ti.size ∧ i.bytes = ti.bytes ∧ i.zero = some z ∧ z.cells.size = ti.size ∧ All2 litV (match ti.kind with | .array n _ => (List.replicate n ti.zero).flatten | _ => ti.zero) z.cells.toList

structure Cfg where
  n : Nat
  fix : Nat
  ck : Bool
  tys : List (Nat × TI)

def TysOK (P : Program) : List (Nat × TI) → Prop
  | [] => True
  | (t, ti) :: r => ti.OK P t ∧ TysOK P r

theorem TysOK.mem {P : Program} : ∀ {l : List (Nat × TI)} {t : Nat} {ti : TI}, TysOK P l → (t, ti) ∈ l → ti.OK P t
  | (t', ti') :: r, t, ti, ⟨h1, h2⟩, hm => by
    rcases List.mem_cons.1 hm with e | hm
    · obtain ⟨rfl, rfl⟩ := Prod.mk.inj e; exact h1
    · exact h2.mem hm

def lk (g : Cfg) (t : TypeId) : Option TI := get g.tys t

def pre : List (Nat × Bool) → List (Nat × Bool) → Bool
  | [], _ => true
  | (s, u) :: p, (t, v) :: q => Nat.beq s t && (u == v) && pre p q
  | _ :: _, [] => false

theorem pre_sound {tmps : Array Value} : ∀ {p q : List (Nat × Bool)}, pre p q = true → pcA tmps q → pcA tmps p
  | [], _, _, _ => fun e he => by cases he
  | (s, u) :: p, (t, v) :: q, h, hq => by
    simp only [pre, Bool.and_eq_true, beq_iff_eq] at h
    obtain ⟨⟨h1, h2⟩, h3⟩ := h
    have h1 := Nat.eq_of_beq_eq_true h1
    subst h1 h2
    intro e he
    rcases List.mem_cons.1 he with rfl | he
    · exact hq _ (by simp)
    · exact pre_sound h3 (fun e he => hq e (by simp [he])) e he
  | _ :: _, [], h, _ => by simp [pre] at h

def ofVal : Value → Option V
  | .int k n => some (.d (.int k n))
  | .bool b => some (.d (.bool b))
  | .string s => some (.d (.str s))
  | .slice none 0 0 => some .nils
  | _ => none

def strip (q : List (Nat × Bool)) : V → Option V
  | .g p v => bif pre p q then some v else none
  | v => some v

def ev (L : List (Nat × V)) (q : List (Nat × Bool)) : Operand → Option V
  | .const v => ofVal v
  | .func f => some (.fn f [])
  | .global _ => none
  | .tmp t => match get L t with
    | none => none
    | some v => strip q v

section
variable {C : Ctx} {s : St} {a : Act} {w : World} {ρ : Nat → Value} {F : Nat → Prop} {q : List (Nat × Bool)}

theorem ofVal_sound {x : Value} {v : V} (h : ofVal x = some v) : R3 ρ F w v x ∧ v.all3 (fresh s.m) = true := by
  unfold ofVal at h
  split at h <;> simp at h <;> subst h
  · exact ⟨RD.int _ _, rfl⟩
  · exact ⟨RD.bool _, rfl⟩
  · exact ⟨RD.str _, rfl⟩
  · exact ⟨rfl, rfl⟩

theorem strip_sound {v u : V} {tmps : Array Value} {x : Value} {m : Nat} (hq : pcA tmps q) (h : strip q v = some u) (hr : RS tmps ρ F w v x) (hf : v.all4 (fresh m) = true) : R3 ρ F w u x ∧ u.all3 (fresh m) = true := by
  cases v with
  | g p y =>
    simp only [strip] at h
    cases hp : pre p q with
    | false => rw [hp] at h; simp at h
    | true =>
      rw [hp] at h
      simp at h
      subst h
      exact ⟨hr.1 (pre_sound hp hq), hf⟩
  | _ => simp only [strip, Option.some.injEq] at h; subst h; exact ⟨hr, hf⟩

theorem ev_sound (h : SatW C s a w ρ F) (hq : pcA a.tmps q) {x : Operand} {v : V} (he : ev s.L q x = some v) : R3 ρ F w v (a.eval x) ∧ v.all3 (fresh s.m) = true := by
  cases x with
  | const y => exact ofVal_sound he
  | func f => simp only [ev, Option.some.injEq] at he; subst he; exact ⟨⟨[], rfl, trivial⟩, rfl⟩
  | global y => simp [ev] at he
  | tmp t =>
    simp only [ev] at he
    cases hg : get s.L t with
    | none => rw [hg] at he; simp at he
    | some u =>
      rw [hg] at he
      obtain ⟨y, hy, hr⟩ := h.slot t u (get_mem hg)
      have : a.eval (.tmp t) = y := by simp [Act.eval, Array.getD_eq_getD_getElem?, hy]
      rw [this]
      exact strip_sound hq he hr (h.freshL t u (get_mem hg))
end

/-! ## arithmetic -/
def kn : IntKind → Nat
  | .i8 => 0 | .i16 => 1 | .i32 => 2 | .i64 => 3 | .u8 => 4 | .u16 => 5 | .u32 => 6 | .u64 => 7
def kbeq (a b : IntKind) : Bool := Nat.beq (kn a) (kn b)
theorem kbeq_eq {a b : IntKind} (h : kbeq a b = true) : a = b := by
  have := Nat.eq_of_beq_eq_true h
  cases a <;> cases b <;> simp [kn] at this <;> rfl

def AllP : List Prop → Prop
  | [] => True
  | [p] => p
  | p :: q :: r => p ∧ AllP (q :: r)

theorem AllP_cons (p : Prop) (r : List Prop) : AllP (p :: r) ↔ p ∧ AllP r := by
  cases r <;> simp [AllP]
theorem AllP_append : ∀ (a b : List Prop), AllP (a ++ b) ↔ AllP a ∧ AllP b
  | [], b => by simp [AllP]
  | p :: a, b => by rw [List.cons_append, AllP_cons, AllP_cons, AllP_append a b, and_assoc]

def inI64 (n : Int) : Prop := -9223372036854775808 ≤ n ∧ n ≤ 9223372036854775807

/-- A computed number: of an int64 (where ck): the number itself, and that it fits; else wrapped. -/
def num (ck : Bool) (k : IntKind) (n : Int) : V × List Prop :=
  match ck, k with
  | true, .i64 => (.d (.int .i64 n), [inI64 n])
  | _, k => (.d (.int k (k.wrap n)), [])

theorem wrap_in {n : Int} (h : inI64 n) : IntKind.i64.wrap n = n := by rw [IntKind.wrap_i64]; unfold inI64 at h; omega

theorem num_sound {ck : Bool} {k : IntKind} {n : Int} (h : AllP (num ck k n).2) : (num ck k n).1 = .d (.int k (k.wrap n)) := by
  unfold num at *
  split at h
  · rw [wrap_in (show inI64 n from h)]
  · rfl

def bitI (op : BinOp) (k : IntKind) (x y : Int) : Int :=
  let a := BitVec.ofInt k.bits x
  let b := BitVec.ofInt k.bits y
  match op with
  | .and => k.wrap (a &&& b).toNat
  | .or => k.wrap (a ||| b).toNat
  | .xor => k.wrap (a ^^^ b).toNat
  | _ => k.wrap (a &&& ~~~b).toNat

def intE (ck : Bool) (op : BinOp) (k : IntKind) (a b : Int) : Option (V × List Prop) :=
  match op with
  | .add => some (num ck k (a + b))
  | .sub => some (num ck k (a - b))
  | .mul => some (num ck k (a * b))
  | .quo => match num ck k (a.tdiv b) with | (v, p) => some (v, (b ≠ 0) :: p)
  | .rem => some (.d (.int k (a.tmod b)), [b ≠ 0])
  | .and => some (.d (.int k (bitI .and k a b)), [])
  | .or => some (.d (.int k (bitI .or k a b)), [])
  | .xor => some (.d (.int k (bitI .xor k a b)), [])
  | .andNot => some (.d (.int k (bitI .andNot k a b)), [])
  | .eql => some (vb (decide (a = b)), [])
  | .neq => some (vb (!decide (a = b)), [])
  | .lss => some (vb (decide (a < b)), [])
  | .leq => some (vb (decide (a ≤ b)), [])
  | .gtr => some (vb (decide (b < a)), [])
  | .geq => some (vb (decide (b ≤ a)), [])
  | _ => none

def shE (op : BinOp) (k : IntKind) (a b : Int) : Option (V × List Prop) :=
  match op with
  | .shl => some (.d (.int k (k.wrap (a * 2 ^ (min b.toNat k.bits)))), [0 ≤ b])
  | .shr => some (.d (.int k (a.fdiv (2 ^ (min b.toNat k.bits)))), [0 ≤ b])
  | _ => none

def isSh : BinOp → Bool
  | .shl | .shr => true
  | _ => false

def strE (op : BinOp) (a b : ByteArray) : Option (V × List Prop) :=
  match op with
  | .add => some (vs (a ++ b), [((a.size + b.size : Nat) : Int) ≤ 9223372036854775807])
  | .eql => some (vb (decide (a.data.toList = b.data.toList)), [])
  | .neq => some (vb (!decide (a.data.toList = b.data.toList)), [])
  | .lss => some (vb (Op.bytesLess a.data.toList b.data.toList), [])
  | .geq => some (vb (!Op.bytesLess a.data.toList b.data.toList), [])
  | _ => none

def binE (g : Cfg) (ck : Bool) (op : BinOp) (t : TypeId) : V → V → Option (V × List Prop)
  | .d (.int k a), .d (.int k' b) => bif isSh op then shE op k a b else bif kbeq k k' then intE ck op k a b else none
  | .d (.str a), .d (.str b) => strE op a b
  | .d (.bool a), .d (.bool b) => match lk g t with
    | some { kind := .bool, .. } => match op with
      | .eql => some (vb (a == b), [])
      | .neq => some (vb (!(a == b)), [])
      | _ => none
    | _ => none
  | _, _ => none

/-- An operation yields x, whatever has been added to the world. -/
def Yields (P : Program) (m : Sem Next) (w : World) (x : Value) : Prop :=
  ∀ w', (∀ k, k < w.heap.size → w'.heap[k]? = w.heap[k]?) → m.run P w' = .ok (.value x) w'

theorem toList_eq (a b : ByteArray) : (a.toList == b.toList) = decide (a.data.toList = b.data.toList) := by
  rw [ByteArray.toList_eq, ByteArray.toList_eq, Bool.eq_iff_iff]; simp

section
variable {P : Program} {w : World} {ρ : Nat → Value} {F : Nat → Prop}

theorem Yields.of {m : Sem Next} {x : Value} (h : ∀ w', m.run P w' = .ok (.value x) w') : Yields P m w x := fun w' _ => h w'

theorem run_v {m : Sem Value} {w w' : World} {x : Value} (h : m.run P w = .ok x w') : ((do pure (.value (← m)) : Sem Next)).run P w = .ok (.value x) w' := by
  rw [Sem.run_bind, h]; rfl

def plainV : Value → Bool
  | .nilIface | .agg _ => false
  | _ => true

theorem eqGuard_skip (op : BinOp) (t : TypeId) (x y : Operand) (a b : Value) (w : World) (h : plainV a = true) : (eqGuard op t x y a b).run P w = .ok () w := by
  unfold eqGuard
  cases a <;> simp [plainV] at h <;> (split <;> rfl)

theorem int_sound {op : BinOp} {t : TypeId} {k : IntKind} {a b : Int} {ck : Bool} {v : V} {ob : List Prop} {m : Nat} (h : intE ck op k a b = some (v, ob)) (hob : AllP ob) :
    ∃ x, R3 ρ F w v x ∧ v.all3 (fresh m) = true ∧ ∀ w', (binOp op t (.int k a) (.int k b)).run P w' = .ok x w' := by
  have nm : ∀ n, AllP (num ck k n).2 → R3 ρ F w (num ck k n).1 (.int k (k.wrap n)) ∧ (num ck k n).1.all3 (fresh m) = true := fun n hn => by
    rw [num_sound hn]; exact ⟨RD.int _ _, rfl⟩
  cases op <;> simp only [intE, Option.some.injEq, reduceCtorEq] at h
  case quo =>
    obtain ⟨rfl, rfl⟩ := Prod.mk.inj h
    rw [AllP_cons] at hob
    exact ⟨_, (nm _ hob.2).1, (nm _ hob.2).2, fun w' => by simp [binOp, Op.intDiv, hob.1]⟩
  case rem =>
    obtain ⟨rfl, rfl⟩ := Prod.mk.inj h
    have hob : b ≠ 0 := hob
    exact ⟨_, RD.int _ _, rfl, fun w' => by simp [binOp, Op.intDiv, hob]⟩
  case add | sub | mul =>
    obtain ⟨rfl, rfl⟩ : _ ∧ _ := ⟨congrArg Prod.fst h, congrArg Prod.snd h⟩
    exact ⟨_, (nm _ hob).1, (nm _ hob).2, fun w' => by simp [binOp, Op.intArith]⟩
  case and | or | xor | andNot =>
    obtain ⟨rfl, rfl⟩ := Prod.mk.inj h
    exact ⟨_, RD.int _ _, rfl, fun w' => by simp [binOp, Op.intBits, bitI]⟩
  case eql | neq | lss | leq | gtr | geq =>
    obtain ⟨rfl, rfl⟩ := Prod.mk.inj h
    refine ⟨_, RD.bool _, rfl, fun w' => ?_⟩
    simp [binOp, Op.intCmp]
    try rw [Bool.eq_iff_iff]
    try simp

theorem sh_sound {op : BinOp} {t : TypeId} {k k' : IntKind} {a b : Int} {v : V} {ob : List Prop} {m : Nat} (h : shE op k a b = some (v, ob)) (hob : AllP ob) :
    ∃ x, R3 ρ F w v x ∧ v.all3 (fresh m) = true ∧ ∀ w', (binOp op t (.int k a) (.int k' b)).run P w' = .ok x w' := by
  cases op <;> simp only [shE, Option.some.injEq, reduceCtorEq] at h
  all_goals
    obtain ⟨rfl, rfl⟩ := Prod.mk.inj h
    have hob : 0 ≤ b := hob
    have hb : ¬ b < 0 := by omega
    exact ⟨_, RD.int _ _, rfl, fun w' => by simp [binOp, Op.shift, hb]⟩

theorem str_sound {op : BinOp} {t : TypeId} {a b : ByteArray} {v : V} {ob : List Prop} {m : Nat} (h : strE op a b = some (v, ob)) (hob : AllP ob) :
    ∃ x, R3 ρ F w v x ∧ v.all3 (fresh m) = true ∧ ∀ w', (binOp op t (.string a) (.string b)).run P w' = .ok x w' := by
  cases op <;> simp only [strE, Option.some.injEq, reduceCtorEq] at h
  all_goals obtain ⟨rfl, rfl⟩ := Prod.mk.inj h
  case add =>
    refine ⟨_, RD.str _, rfl, fun w' => ?_⟩
    have hob : ((a.size + b.size : Nat) : Int) ≤ 9223372036854775807 := hob
    have : ¬ ((a.size + b.size : Nat) : Int) > IntKind.i64.max := by simp only [IntKind.max, IntKind.bits, IntKind.signed]; simp at hob ⊢; omega
    simp only [binOp, Op.stringOp, this, if_false]; rfl
  all_goals
    refine ⟨_, RD.bool _, rfl, fun w' => ?_⟩
    first
      | (simp only [binOp, Op.stringOp, toList_eq]; rfl)
      | (simp only [binOp, Op.stringOp, ByteArray.toList_eq]; rfl)

theorem lk_ok {g : Cfg} (hg : TysOK P g.tys) {t : TypeId} {ti : TI} (h : lk g t = some ti) : ti.OK P t := hg.mem (get_mem h)

theorem run_und {t : TypeId} {d : TypeDesc} (h : P.underlying t = some d) (w : World) : (underlying t).run P w = .ok d w := run_underlying h w

theorem equal_bool {t : TypeId} (hu : P.underlying t = some .bool) (a b : Bool) (w : World) : (Op.equal t (.bool a) (.bool b)).run P w = .ok (a == b) w := by
  have : ∀ d, (Op.equalIn (d + 1) t (.bool a) (.bool b)).run P w = .ok (a == b) w := fun d => by
    simp only [Op.equalIn, Sem.run_bind, run_und hu, Result.andThen]; rfl
  exact this 9999

theorem bin_sound {g : Cfg} (hg : TysOK P g.tys) {ck : Bool} {op : BinOp} {t : TypeId} {x y v : V} {vx vy : Value} {ob : List Prop} {m : Nat} {ox oy : Operand} (h : binE g ck op t x y = some (v, ob)) (hob : AllP ob)
    (hx : R3 ρ F w x vx) (hy : R3 ρ F w y vy) :
    ∃ r, R3 ρ F w v r ∧ v.all3 (fresh m) = true ∧ ∀ w', (do eqGuard op t ox oy vx vy; binOp op t vx vy : Sem Value).run P w' = .ok r w' := by
  have fin : plainV vx = true → (∃ r, R3 ρ F w v r ∧ v.all3 (fresh m) = true ∧ ∀ w', (binOp op t vx vy).run P w' = .ok r w') →
      ∃ r, R3 ρ F w v r ∧ v.all3 (fresh m) = true ∧ ∀ w', (do eqGuard op t ox oy vx vy; binOp op t vx vy : Sem Value).run P w' = .ok r w' := by
    rintro hp ⟨r, h1, h2, h3⟩
    exact ⟨r, h1, h2, fun w' => by rw [Sem.run_bind, eqGuard_skip _ _ _ _ _ _ _ hp]; exact h3 w'⟩
  unfold binE at h
  split at h
  · cases (show RD F w _ _ from hx); cases (show RD F w _ _ from hy)
    refine fin rfl ?_
    cases hs : isSh op with
    | true => rw [hs] at h; exact sh_sound h hob
    | false =>
      rw [hs] at h
      simp only [cond_false] at h
      cases hk : kbeq _ _ with
      | false => rw [hk] at h; simp at h
      | true => rw [hk] at h; have := kbeq_eq hk; subst this; exact int_sound h hob
  · cases (show RD F w _ _ from hx); cases (show RD F w _ _ from hy)
    exact fin rfl (str_sound h hob)
  · cases (show RD F w _ _ from hx); cases (show RD F w _ _ from hy)
    refine fin rfl ?_
    split at h
    · rename_i hl
      have hu : P.underlying t = some .bool := (lk_ok hg hl).und
      split at h
      · obtain ⟨rfl, rfl⟩ := Prod.mk.inj (Option.some.inj h)
        exact ⟨_, RD.bool _, rfl, fun w' => by simp only [binOp, Sem.run_bind, equal_bool hu, Result.andThen]; rfl⟩
      · obtain ⟨rfl, rfl⟩ := Prod.mk.inj (Option.some.inj h)
        exact ⟨_, RD.bool _, rfl, fun w' => by simp only [binOp, Sem.run_bind, equal_bool hu, Result.andThen]; rfl⟩
      · simp at h
    · simp at h
  · simp at h
end
end Go.Sx
