/-
  Sx, part 22: the words that proofs use.
-/
import Derived.Test.YtdgopbgckdnncaaSx21
set_option linter.unusedVariables false
set_option linter.unusedSimpArgs false
namespace Go.Sx

theorem TI.mk' {P : Program} {t : TypeId} {ti : TI} {z : Value} (hu : kindOK P t ti.kind) (hi : (P.info? t).map (fun i => (i.zero, i.size, i.bytes)) = some (some z, ti.size, ti.bytes)) (hz : z.cells.size = ti.size)
    (hl : All2 litV (match ti.kind with | .array n _ => (List.replicate n ti.zero).flatten | _ => ti.zero) z.cells.toList) : ti.OK P t := by
  obtain ⟨i, h1, h2⟩ := Option.map_eq_some_iff.1 hi
  simp only [Prod.mk.injEq] at h2
  exact ⟨hu, i, z, h1, h2.2.1, h2.2.2, h2.1, hz, hl⟩

theorem all2_app {us vs : List V} {cs ds : List Value} (h1 : All2 litV us cs) (h2 : All2 litV vs ds) : All2 litV (us ++ vs) (cs ++ ds) := All2.app h1 h2
theorem all2_rep {us : List V} {cs : List Value} (h : All2 litV us cs) (n : Nat) : All2 litV (List.replicate n us).flatten (List.replicate n cs).flatten := by
  induction n with
  | zero => trivial
  | succ n ih => simp only [List.replicate_succ, List.flatten_cons]; exact all2_app h ih

/-- A context that fits a program and its settings. -/
structure Cx (P : Pg) (g : Cfg) (C : Ctx) : Prop where
  prog : C.pg = P
  n : g.n = C.n
  fix : g.fix = C.fix
  tys : TysOK P.P g.tys

def callInfo (g : Cfg) (s : St) (o : Oper) : Option (FuncId × List V × Nat) :=
  match o.guard, o.dst with
  | none, some d => bif Nat.blt d g.n then match callOf s.L [] o with
    | some (f, A) => some (f, A, d)
    | none => none
    else none
  | _, _ => none

def callInfoG (g : Cfg) (s : St) (all : Array Oper) (o : Oper) : Option (FuncId × List V × Nat × List (Nat × Bool)) :=
  match o.guard, o.dst with
  | some (j, u), some d => match gpath s.L all j u with
    | some q => bif Nat.blt d g.n && !(q.any fun e => Nat.beq e.1 d) then match callOf s.L q o with
      | some (f, A) => some (f, A, d, q)
      | none => none
      else none
    | none => none
  | _, _ => none

namespace Cx
variable {P : Pg} {g : Cfg} {C : Ctx} (x : Cx P g C) {s s' : St} {K K' : List Item} {Φ : Exit → St → Prop} {ob : List Prop}
include x
theorem progP : C.P = P.P := congrArg Pg.P x.prog
theorem ty : TysOK C.P g.tys := x.progP ▸ x.tys

theorem cond {b : Bool} {c1 c2 : Code} (h : run g 1000 K s [] = .cond ob b c1 c2 K' s') (ho : AllP ob) (h1 : b = true → Go C (.code c1 :: K') s' Φ) (h2 : b = false → Go C (.code c2 :: K') s' Φ) : Go C K s Φ :=
  st x.ty x.n x.fix h ⟨ho, h1, h2⟩
theorem back {J : St → Prop} (h : run g 1000 K s [] = .back ob J s') (ho : AllP ob) (k : J s') : Go C K s Φ :=
  st x.ty x.n x.fix h ⟨ho, k⟩
theorem exit {e : Exit} (h : run g 1000 K s [] = .exit ob e s') (ho : AllP ob) (k : Φ e s') : Go C K s Φ :=
  st x.ty x.n x.fix h ⟨ho, k⟩
theorem op {all : Array Oper} {o : Oper} {rest : List Oper} (h : run g 1000 K s [] = .op ob all o rest K' s') (ho : AllP ob) (k : Go C (.ops all (o :: rest) :: K') s' Φ) : Go C K s Φ :=
  st x.ty x.n x.fix h ⟨ho, k⟩
theorem code {c : Code} (h : run g 1000 K s [] = .code ob c K' s') (ho : AllP ob) (k : Go C (.code c :: K') s' Φ) : Go C K s Φ :=
  st x.ty x.n x.fix h ⟨ho, k⟩
theorem loop {α : Type} (I : α → St) (μ : α → Nat) (x0 : α) {c : Code} (h : run g 1000 K s [] = .loop ob c K' s') (ho : AllP ob) (h0 : LE g.fix s' (I x0))
    (hr : ∀ y, Go C (.code c :: .back (fun s' => ∃ z, μ z < μ y ∧ LE g.fix s' (I z)) :: K') (I y) Φ) : Go C K s Φ :=
  st x.ty x.n x.fix h ⟨ho, Go.loop x.fix I μ x0 h0 hr⟩
theorem cut {α : Type} (I : α → St) {c : Code} (h1 : Go C (.code c :: .back (fun s' => ∃ y, LE g.fix s' (I y)) :: K) s Φ) (h2 : ∀ y, Go C K (I y) Φ) : Go C (.code c :: K) s Φ :=
  Go.cut x.fix I h1 h2
theorem le (h : LE g.fix s s') (k : Go C K s' Φ) : Go C K s Φ := Go.le x.fix h k

/-- A call of a function that keeps to itself. -/
theorem pure {all : Array Oper} {o : Oper} {rest : List Oper} {args A : List V} {H' : List Ch} {r : V} {f d : Nat} (h : run g 1000 K s [] = .op ob all o rest K' s') (ho : AllP ob)
    (hco : callInfo g s' o = some (f, A, d)) (hp : Pure P f args r H') (hA : AEq A (args.map (V.map3 (ren0 [])))) (k : Go C (.ops all rest :: K') (after s' d [] 0 r H' []) Φ) : Go C K s Φ := by
  refine st x.ty x.n x.fix h ⟨ho, ?_⟩
  unfold callInfo at hco
  split at hco
  · rename_i d' hg hd
    cases hb : Nat.blt d' g.n with
    | false => rw [hb] at hco; simp at hco
    | true =>
      rw [hb] at hco
      simp only [cond_true] at hco
      split at hco
      · rename_i f' A' hc
        simp only [Option.some.injEq, Prod.mk.injEq] at hco
        obtain ⟨rfl, rfl, rfl⟩ := hco
        exact Go.call x.n x.fix [] (x.prog ▸ hp) hg hd hb hc hA rfl trivial k
      · simp at hco
  · simp at hco

/-- A call that is handed chunks of ours. -/
theorem call (is : List Nat) {all : Array Oper} {o : Oper} {rest : List Oper} {fix : Nat} {args A : List V} {H H' : List Ch} {r : V} {f d : Nat} (h : run g 1000 K s [] = .op ob all o rest K' s') (ho : AllP ob)
    (hco : callInfo g s' o = some (f, A, d)) (hp : Proc P f fix args H r H') (hok : okIs g s'.m is fix H.length = true) (hA : AEq A (args.map (V.map3 (ren0 is)))) (hH : HLE s'.H (rnH is is H)) (k : Go C (.ops all rest :: K') (after s' d is fix r H' []) Φ) : Go C K s Φ := by
  refine st x.ty x.n x.fix h ⟨ho, ?_⟩
  unfold callInfo at hco
  split at hco
  · rename_i d' hg hd
    cases hb : Nat.blt d' g.n with
    | false => rw [hb] at hco; simp at hco
    | true =>
      rw [hb] at hco
      simp only [cond_true] at hco
      split at hco
      · rename_i f' A' hc
        simp only [Option.some.injEq, Prod.mk.injEq] at hco
        obtain ⟨rfl, rfl, rfl⟩ := hco
        exact Go.call x.n x.fix is (x.prog ▸ hp) hg hd hb hc hA hok hH k
      · simp at hco
  · simp at hco

/-- A call under a guard. -/
theorem pureG {all : Array Oper} {o : Oper} {rest : List Oper} {args A : List V} {r : V} {f d : Nat} {q : List (Nat × Bool)} (h : run g 1000 K s [] = .op ob all o rest K' s') (ho : AllP ob)
    (hco : callInfoG g s' all o = some (f, A, d, q)) (hp : imp s'.L q (Pure P f args r [])) (hr : r.all3 (fresh 0) = true) (hA : AEq A (args.map (V.map3 (ren0 [])))) (k : Go C (.ops all rest :: K') { s' with L := put s'.L d (.g q r) } Φ) : Go C K s Φ := by
  refine st x.ty x.n x.fix h ⟨ho, ?_⟩
  unfold callInfoG at hco
  split at hco
  · rename_i j u d' hg hd
    split at hco
    · rename_i q' hq
      cases hb : (Nat.blt d' g.n && !(q'.any fun e => Nat.beq e.1 d')) with
      | false => rw [hb] at hco; simp at hco
      | true =>
        rw [hb] at hco
        simp only [cond_true] at hco
        split at hco
        · rename_i f' A' hc
          simp only [Option.some.injEq, Prod.mk.injEq] at hco
          obtain ⟨rfl, rfl, rfl, rfl⟩ := hco
          exact Go.callG x.n x.fix hg hq hd (by simp only [Bool.and_eq_true] at hb ⊢; exact ⟨hb, hr⟩) hc (x.prog ▸ hp) hA rfl k
        · simp at hco
    · simp at hco
  · simp at hco

/-- The next rune, or the end. -/
theorem next {all : Array Oper} {o : Oper} {rest : List Oper} {id d : Nat} {b : ByteArray} {p : Nat} (h : run g 1000 K s [] = .op ob all o rest K' s') (ho : AllP ob) (hgd : o.guard = none) (hno : nextOf s' o = some (id, d, b, p)) (hdn : Nat.blt d g.n = true)
    (h1 : p < b.size → Go C (.ops all rest :: K') { L := put s'.L d (.tup [vb true, vi (p : Int), .d (.int .i32 ((Utf8.decode b p).1 : Int))]), H := (id, .iter b (p + (Utf8.decode b p).2)) :: delH id s'.H, m := s'.m } Φ)
    (h2 : ¬ p < b.size → Go C (.ops all rest :: K') { s' with L := put s'.L d (.tup [vb false]) } Φ) : Go C K s Φ :=
  st x.ty x.n x.fix h ⟨ho, Go.next x.n hgd hno hdn h1 h2⟩
end Cx

/-- ixV with its numbers written out. -/
def ixL : List V → List (Nat × V)
  | [] => []
  | [a] => [(0, a)]
  | [a, b] => [(0, a), (1, b)]
  | [a, b, c] => [(0, a), (1, b), (2, c)]
  | [a, b, c, d] => [(0, a), (1, b), (2, c), (3, d)]
  | [a, b, c, d, e] => [(0, a), (1, b), (2, c), (3, d), (4, e)]
  | [a, b, c, d, e, f] => [(0, a), (1, b), (2, c), (3, d), (4, e), (5, f)]
  | [a, b, c, d, e, f, g] => [(0, a), (1, b), (2, c), (3, d), (4, e), (5, f), (6, g)]
  | [a, b, c, d, e, f, g, h] => [(0, a), (1, b), (2, c), (3, d), (4, e), (5, f), (6, g), (7, h)]
  | [a, b, c, d, e, f, g, h, i] => [(0, a), (1, b), (2, c), (3, d), (4, e), (5, f), (6, g), (7, h), (8, i)]
  | [a, b, c, d, e, f, g, h, i, j] => [(0, a), (1, b), (2, c), (3, d), (4, e), (5, f), (6, g), (7, h), (8, i), (9, j)]
  | [a, b, c, d, e, f, g, h, i, j, k] => [(0, a), (1, b), (2, c), (3, d), (4, e), (5, f), (6, g), (7, h), (8, i), (9, j), (10, k)]
  | [a, b, c, d, e, f, g, h, i, j, k, l] => [(0, a), (1, b), (2, c), (3, d), (4, e), (5, f), (6, g), (7, h), (8, i), (9, j), (10, k), (11, l)]
  | l => ixV 0 l
theorem ixL_eq (l : List V) : ixL l = ixV 0 l := by
  unfold ixL
  split <;> rfl
/-- ixC with its numbers written out. -/
def ixH : List Ch → List (Nat × Ch)
  | [] => []
  | [a] => [(0, a)]
  | [a, b] => [(0, a), (1, b)]
  | [a, b, c] => [(0, a), (1, b), (2, c)]
  | [a, b, c, d] => [(0, a), (1, b), (2, c), (3, d)]
  | [a, b, c, d, e] => [(0, a), (1, b), (2, c), (3, d), (4, e)]
  | [a, b, c, d, e, f] => [(0, a), (1, b), (2, c), (3, d), (4, e), (5, f)]
  | [a, b, c, d, e, f, g] => [(0, a), (1, b), (2, c), (3, d), (4, e), (5, f), (6, g)]
  | [a, b, c, d, e, f, g, h] => [(0, a), (1, b), (2, c), (3, d), (4, e), (5, f), (6, g), (7, h)]
  | [a, b, c, d, e, f, g, h, i] => [(0, a), (1, b), (2, c), (3, d), (4, e), (5, f), (6, g), (7, h), (8, i)]
  | [a, b, c, d, e, f, g, h, i, j] => [(0, a), (1, b), (2, c), (3, d), (4, e), (5, f), (6, g), (7, h), (8, i), (9, j)]
  | [a, b, c, d, e, f, g, h, i, j, k] => [(0, a), (1, b), (2, c), (3, d), (4, e), (5, f), (6, g), (7, h), (8, i), (9, j), (10, k)]
  | [a, b, c, d, e, f, g, h, i, j, k, l] => [(0, a), (1, b), (2, c), (3, d), (4, e), (5, f), (6, g), (7, h), (8, i), (9, j), (10, k), (11, l)]
  | l => ixC 0 l
theorem ixH_eq (l : List Ch) : ixH l = ixC 0 l := by
  unfold ixH
  split <;> rfl
def lenL : List Ch → Nat
  | [] => 0
  | [_] => 1
  | [_, _] => 2
  | [_, _, _] => 3
  | [_, _, _, _] => 4
  | [_, _, _, _, _] => 5
  | [_, _, _, _, _, _] => 6
  | [_, _, _, _, _, _, _] => 7
  | [_, _, _, _, _, _, _, _] => 8
  | l => l.length
theorem lenL_eq (l : List Ch) : lenL l = l.length := by
  unfold lenL
  split <;> rfl

/-- Proc.intro, with the context's facts in one. -/
theorem Proc.mk {P : Pg} (g : Cfg) (htys : TysOK P.P g.tys) (ids : List Nat) {f : FuncId} {fn : Func} {c : Code} {args : List V} {H : List Ch} {r : V} {H' : List Ch} {rs : List ResultVar} (hf : P.P.funcs[f]? = some fn) (hb : fn.body = some c) (hname : (fn.name == "runtime.NumGoroutine") = false)
    (hn : g.n = fn.ntmps) (hrs : fn.results = rs.toArray) (hok : (Nat.ble args.length g.n && freshAll args H H.length && freshAll [r] H' H'.length && Nat.ble g.fix H.length && Nat.ble H.length H'.length) = true)
    (hgo : ∀ (C : Ctx), Cx P g C → Go C [.code c] ⟨ixL args, ixH H, lenL H⟩ (Ret g rs ids r H')) : Proc P f g.fix args H r H' := by
  simp only [Bool.and_eq_true] at hok
  obtain ⟨⟨⟨⟨h1, h2⟩, h3⟩, h4⟩, h5⟩ := hok
  exact Proc.intro hf hb hname htys hn hrs h1 h2 h3 h4 h5 ids fun C e1 e2 e3 => by rw [← ixL_eq, ← ixH_eq, ← lenL_eq]; exact hgo C ⟨e1, e2, e3, htys⟩
end Go.Sx
