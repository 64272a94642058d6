/-
  Sx, part 14: the machine: it goes on until something must be decided.
-/
import Derived.Test.YtdgopbgckdnncaaSx13
set_option linter.unusedVariables false
set_option linter.unusedSimpArgs false
namespace Go.Sx

inductive Item where
  | code (c : Code)
  | ops (all : Array Oper) (l : List Oper)
  | blk (id : Nat)
  | back (J : St → Prop)

inductive Ev where
  | exit (ob : List Prop) (e : Exit) (s : St)
  | cond (ob : List Prop) (b : Bool) (x y : Code) (K : List Item) (s : St)
  | loop (ob : List Prop) (c : Code) (K : List Item) (s : St)
  | back (ob : List Prop) (J : St → Prop) (s : St)
  | op (ob : List Prop) (all : Array Oper) (o : Oper) (rest : List Oper) (K : List Item) (s : St)
  | code (ob : List Prop) (c : Code) (K : List Item) (s : St)
  | stuck (why : String)

/-! ### normal forms -/
def fN {α : Type} : Nat → (Nat → α) → α
  | 0, c => c 0
  | 1, c => c 1
  | 2, c => c 2
  | 3, c => c 3
  | 4, c => c 4
  | 5, c => c 5
  | 6, c => c 6
  | 7, c => c 7
  | 8, c => c 8
  | 9, c => c 9
  | 10, c => c 10
  | 11, c => c 11
  | 12, c => c 12
  | 13, c => c 13
  | 14, c => c 14
  | 15, c => c 15
  | 16, c => c 16
  | 17, c => c 17
  | 18, c => c 18
  | 19, c => c 19
  | 20, c => c 20
  | 21, c => c 21
  | 22, c => c 22
  | 23, c => c 23
  | 24, c => c 24
  | 25, c => c 25
  | 26, c => c 26
  | 27, c => c 27
  | 28, c => c 28
  | 29, c => c 29
  | 30, c => c 30
  | 31, c => c 31
  | 32, c => c 32
  | 33, c => c 33
  | 34, c => c 34
  | 35, c => c 35
  | 36, c => c 36
  | 37, c => c 37
  | 38, c => c 38
  | 39, c => c 39
  | n, c => c n
def fD {α : Type} : D → (D → α) → α
  | .int k n, c => c (.int k n)
  | .bool b, c => c (.bool b)
  | .str s, c => c (.str s)
  | .sl z n f, c => c (.sl z n f)
def fDs {α : Type} : List D → (List D → α) → α
  | [], c => c []
  | d :: r, c => fD d fun d' => fDs r fun r' => c (d' :: r')
def f0 {α : Type} : V → (V → α) → α
  | .d x, c => fD x fun x' => c (.d x')
  | .eptr ds, c => fDs ds fun ds' => c (.eptr ds')
  | .nils, c => c .nils
  | .ptr i o, c => fN i fun i' => c (.ptr i' o)
  | .own i, c => fN i fun i' => c (.own i')
  | .vptr i z k o, c => fN i fun i' => c (.vptr i' z k o)
  | .dead, c => c .dead
  | .fn f us, c => c (.fn f us)
  | .agg us, c => c (.agg us)
  | .tup us, c => c (.tup us)
  | .g p v, c => c (.g p v)
def f0s {α : Type} : List V → (List V → α) → α
  | [], c => c []
  | v :: r, c => f0 v fun v' => f0s r fun r' => c (v' :: r')
def f1 {α : Type} : V → (V → α) → α
  | .fn f us, c => f0s us fun us' => c (.fn f us')
  | v, c => f0 v c
def f1s {α : Type} : List V → (List V → α) → α
  | [], c => c []
  | v :: r, c => f1 v fun v' => f1s r fun r' => c (v' :: r')
def f2 {α : Type} : V → (V → α) → α
  | .agg us, c => f1s us fun us' => c (.agg us')
  | v, c => f1 v c
def f2s {α : Type} : List V → (List V → α) → α
  | [], c => c []
  | v :: r, c => f2 v fun v' => f2s r fun r' => c (v' :: r')
def f3 {α : Type} : V → (V → α) → α
  | .tup us, c => f2s us fun us' => c (.tup us')
  | v, c => f2 v c
def fP {α : Type} : List (Nat × Bool) → (List (Nat × Bool) → α) → α
  | [], c => c []
  | (t, b) :: r, c => fP r fun r' => c ((t, b) :: r')
def f4 {α : Type} : V → (V → α) → α
  | .g p v, c => fP p fun p' => f3 v fun v' => c (.g p' v')
  | v, c => f3 v c
def fL {α : Type} : List (Nat × V) → (List (Nat × V) → α) → α
  | [], c => c []
  | (t, v) :: r, c => f4 v fun v' => fL r fun r' => c ((t, v') :: r')
def fC {α : Type} : Ch → (Ch → α) → α
  | .box us, c => f1s us fun us' => c (.box us')
  | .arr z n f, c => c (.arr z n f)
  | .vec e z n f, c => c (.vec e z n f)
  | .iter s p, c => c (.iter s p)
  | .rows e e' z n h hs m f, c => c (.rows e e' z n h hs m f)
def fH {α : Type} : List (Nat × Ch) → (List (Nat × Ch) → α) → α
  | [], c => c []
  | (t, v) :: r, c => fN t fun t' => fC v fun v' => fH r fun r' => c ((t', v') :: r')
def fS {α : Type} : St → (St → α) → α
  | ⟨L, H, m⟩, c => fL L fun L' => fH H fun H' => fN m fun m' => c ⟨L', H', m'⟩
def fO {α : Type} : List Prop → (List Prop → α) → α
  | [], c => c []
  | p :: r, c => fO r fun r' => c (p :: r')

def fA {α : Type} : List Prop → List Prop → (List Prop → α) → α
  | [], q, c => fO q c
  | p :: r, q, c => fA r q fun r' => c (p :: r')

section
variable {α : Type}
theorem fN_eq (n : Nat) (c : Nat → α) : fN n c = c n := by unfold fN; split <;> rfl
theorem fD_eq (d : D) (c : D → α) : fD d c = c d := by cases d <;> rfl
theorem fDs_eq : ∀ (l : List D) (c : List D → α), fDs l c = c l
  | [], _ => rfl
  | d :: r, c => by simp [fDs, fD_eq, fDs_eq r]
theorem f0_eq (v : V) (c : V → α) : f0 v c = c v := by cases v <;> simp [f0, fD_eq, fDs_eq, fN_eq]
theorem f0s_eq : ∀ (l : List V) (c : List V → α), f0s l c = c l
  | [], _ => rfl
  | d :: r, c => by simp [f0s, f0_eq, f0s_eq r]
theorem f1_eq (v : V) (c : V → α) : f1 v c = c v := by cases v <;> simp [f1, f0s_eq, f0_eq]
theorem f1s_eq : ∀ (l : List V) (c : List V → α), f1s l c = c l
  | [], _ => rfl
  | d :: r, c => by simp [f1s, f1_eq, f1s_eq r]
theorem f2_eq (v : V) (c : V → α) : f2 v c = c v := by cases v <;> simp [f2, f1s_eq, f1_eq]
theorem f2s_eq : ∀ (l : List V) (c : List V → α), f2s l c = c l
  | [], _ => rfl
  | d :: r, c => by simp [f2s, f2_eq, f2s_eq r]
theorem f3_eq (v : V) (c : V → α) : f3 v c = c v := by cases v <;> simp [f3, f2s_eq, f2_eq]
theorem fP_eq : ∀ (l : List (Nat × Bool)) (c : List (Nat × Bool) → α), fP l c = c l
  | [], _ => rfl
  | (t, b) :: r, c => by simp [fP, fP_eq r]
theorem f4_eq (v : V) (c : V → α) : f4 v c = c v := by cases v <;> simp [f4, f3_eq, fP_eq]
theorem fL_eq : ∀ (l : List (Nat × V)) (c : List (Nat × V) → α), fL l c = c l
  | [], _ => rfl
  | (t, b) :: r, c => by simp [fL, f4_eq, fL_eq r, fN_eq]
theorem fC_eq (v : Ch) (c : Ch → α) : fC v c = c v := by cases v <;> simp [fC, f1s_eq]
theorem fH_eq : ∀ (l : List (Nat × Ch)) (c : List (Nat × Ch) → α), fH l c = c l
  | [], _ => rfl
  | (t, b) :: r, c => by simp [fH, fC_eq, fH_eq r, fN_eq]
theorem fS_eq (s : St) (c : St → α) : fS s c = c s := by cases s; simp [fS, fL_eq, fH_eq, fN_eq]
theorem fO_eq : ∀ (l : List Prop) (c : List Prop → α), fO l c = c l
  | [], _ => rfl
  | p :: r, c => by simp [fO, fO_eq r]
end

theorem fA_eq {α : Type} : ∀ (l q : List Prop) (c : List Prop → α), fA l q c = c (l ++ q)
  | [], _, _ => by simp [fA, fO_eq]
  | p :: r, q, _ => by simp [fA, fA_eq r q]

/-! ### guards -/
/-- What must hold for a path, ahead of an obligation. -/
def imp (L : List (Nat × V)) : List (Nat × Bool) → Prop → Prop
  | [], P => P
  | (t, u) :: q, P => match get L t with
    | some (.d (.bool b)) => b = u → imp L q P
    | some (.g _ (.d (.bool b))) => b = u → imp L q P
    | _ => imp L q P

def imps (L : List (Nat × V)) (q : List (Nat × Bool)) : List Prop → List Prop
  | [] => []
  | p :: r => imp L q p :: imps L q r

def fI {α : Type} (L : List (Nat × V)) : List (Nat × Bool) → Prop → (Prop → α) → α
  | [], P, c => c P
  | (t, u) :: q, P, c => match get L t with
    | some (.d (.bool b)) => fI L q P fun Q => c (b = u → Q)
    | some (.g _ (.d (.bool b))) => fI L q P fun Q => c (b = u → Q)
    | _ => fI L q P c
def fIs {α : Type} (L : List (Nat × V)) (q : List (Nat × Bool)) : List Prop → (List Prop → α) → α
  | [], c => c []
  | p :: r, c => fI L q p fun p' => fIs L q r fun r' => c (p' :: r')
theorem fI_eq {α : Type} (L : List (Nat × V)) : ∀ (q : List (Nat × Bool)) (P : Prop) (c : Prop → α), fI L q P c = c (imp L q P)
  | [], _, _ => rfl
  | (t, u) :: q, P, c => by
    simp only [fI, imp]
    split <;> simp_all [fI_eq L q]
theorem fIs_eq {α : Type} (L : List (Nat × V)) (q : List (Nat × Bool)) : ∀ (l : List Prop) (c : List Prop → α), fIs L q l c = c (imps L q l)
  | [], _ => rfl
  | p :: r, c => by simp only [fIs, fI_eq, imps, fIs_eq L q r]

/-- The path of an operation under a guard. -/
def gpath (L : List (Nat × V)) (all : Array Oper) (j : Nat) (u : Bool) : Option (List (Nat × Bool)) :=
  match all.toList[j]? with
  | some o => match o.dst with
    | some t => match get L t with
      | some (.d (.bool _)) => some [(t, u)]
      | some (.g p (.d (.bool _))) => some (p ++ [(t, u)])
      | _ => none
    | none => none
  | none => none

def popTo (id : Nat) : List Item → Option (List Item)
  | [] => none
  | .blk i :: K => bif Nat.beq i id then some K else popTo id K
  | _ :: K => popTo id K

/-- THE MACHINE. -/
def run (g : Cfg) : Nat → List Item → St → List Prop → Ev
  | 0, K, s, ob => .stuck "fuel"
  | n + 1, K, ⟨L, H, m⟩, ob => match K with
    | [] => fS ⟨L, H, m⟩ fun S => fO ob fun ob => .exit ob .normal S
    | .blk _ :: K => run g n K ⟨L, H, m⟩ ob
    | .back J :: K => fS ⟨L, H, m⟩ fun S => fO ob fun ob => .back ob J S
    | .code c :: K => match c with
      | .skip => run g n K ⟨L, H, m⟩ ob
      | .label _ => run g n K ⟨L, H, m⟩ ob
      | .seq x y => run g n (.code x :: .code y :: K) ⟨L, H, m⟩ ob
      | .block id b => run g n (.code b :: .blk id :: K) ⟨L, H, m⟩ ob
      | .region _ ops false => run g n (.ops ops ops.toList :: K) ⟨L, H, m⟩ ob
      | .cond c x y => match ev L [] c with
        | some (.d (.bool b)) => fS ⟨L, H, m⟩ fun S => fO ob fun ob => .cond ob b x y K S
        | _ => .stuck "cond"
      | .loop b => fS ⟨L, H, m⟩ fun S => fO ob fun ob => .loop ob b K S
      | .exit id => match popTo id K with
        | some K => run g n K ⟨L, H, m⟩ ob
        | none => fS ⟨L, H, m⟩ fun S => fO ob fun ob => .exit ob (.exit id) S
      | .goto id => fS ⟨L, H, m⟩ fun S => fO ob fun ob => .exit ob (.goto id) S
      | .ret => fS ⟨L, H, m⟩ fun S => fO ob fun ob => .exit ob .ret S
      | c => fS ⟨L, H, m⟩ fun S => fO ob fun ob => .code ob c K S
    | .ops all l :: K => match l with
      | [] => run g n K ⟨L, H, m⟩ ob
      | o :: rest => match o.guard with
        | none => match rdE g g.ck ⟨L, H, m⟩ [] o.op with
          | some (v, p) => match o.dst with
            | some d => bif Nat.blt d g.n then f3 v fun v => fL (put L d v) fun L' => fA ob p fun ob => run g n (.ops all rest :: K) ⟨L', H, m⟩ ob else .stuck "slot"
            | none => .stuck "no slot"
          | none => match efE g ⟨L, H, m⟩ o.dst o.op with
            | some (s', p) => fS s' fun s' => fA ob p fun ob => run g n (.ops all rest :: K) s' ob
            | none => fS ⟨L, H, m⟩ fun S => fO ob fun ob => .op ob all o rest K S
        | some (j, u) => match gpath L all j u with
          | none => .stuck "guard"
          | some q => match rdE g g.ck ⟨L, H, m⟩ q o.op with
            | some (v, p) => match o.dst with
              | some d => bif Nat.blt d g.n && !(q.any fun e => Nat.beq e.1 d) && v.all3 (fresh m) then fIs L q p fun p => f3 v fun v => fP q fun q => fL (put L d (.g q v)) fun L' => fA ob p fun ob => run g n (.ops all rest :: K) ⟨L', H, m⟩ ob else .stuck "slot"
              | none => .stuck "no slot"
            | none => fS ⟨L, H, m⟩ fun S => fO ob fun ob => .op ob all o rest K S

def conc (C : Ctx) (Φ : Exit → St → Prop) : Exit → Act → World → Prop := fun e a w => ∃ s, Sat C s a w ∧ Φ e s

/-- What a stack does. -/
def den (C : Ctx) (Q : Exit → Act → World → Prop) : List Item → Exit → Act → World → Prop
  | [] => Q
  | .code c :: K => fun e a w => match e with
    | .normal => c.wp C.P (den C Q K) a w
    | e => den C Q K e a w
  | .ops all l :: K => fun e a w => match e with
    | .normal => wpList C.P all (den C Q K) l a w
    | e => den C Q K e a w
  | .blk id :: K => Exit.inBlock id (den C Q K)
  | .back J :: K => fun e a w => match e with
    | .normal => ∃ s, Sat C s a w ∧ J s
    | e => den C Q K e a w

def Go (C : Ctx) (K : List Item) (s : St) (Φ : Exit → St → Prop) : Prop := ∀ a w, Sat C s a w → den C (conc C Φ) K .normal a w

def Ev.holds (C : Ctx) (Φ : Exit → St → Prop) : Ev → Prop
  | .exit ob e s => AllP ob ∧ Φ e s
  | .cond ob b x y K s => AllP ob ∧ (b = true → Go C (.code x :: K) s Φ) ∧ (b = false → Go C (.code y :: K) s Φ)
  | .loop ob c K s => AllP ob ∧ Go C (.code (.loop c) :: K) s Φ
  | .back ob J s => AllP ob ∧ J s
  | .op ob all o rest K s => AllP ob ∧ Go C (.ops all (o :: rest) :: K) s Φ
  | .code ob c K s => AllP ob ∧ Go C (.code c :: K) s Φ
  | .stuck _ => False
end Go.Sx
