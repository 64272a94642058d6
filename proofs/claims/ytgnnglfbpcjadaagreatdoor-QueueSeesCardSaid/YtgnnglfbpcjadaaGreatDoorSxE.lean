/- Texts put together: Sx21, Sx22, Sx23, Sx24, Sx25, Sx26, Sx27, Sx28, Sx29. -/
import Derived.Test.YtgnnglfbpcjadaaGreatDoorSxD
import Derived.Below
import Derived.DataShut
import Derived.Deep.Quiet
import Derived.StillTail
import Derived.Scope
import Derived.ChangeArms
import Derived.Carry
import Derived.SizedLaws

/-
  Sx, part 21: ranging over a string; a slice that is written no more.
-/
set_option linter.unusedVariables false
set_option linter.unusedSimpArgs false
namespace Go.Sx

def nextOf (s : St) (o : Oper) : Option (Nat × Nat × ByteArray × Nat) :=
  match o.op, o.dst with
  | .next it true, some d => match ev s.L [] it with
    | some (.ptr id 0) => match get s.H id with
      | some (.iter b pos) => some (id, d, b, pos)
      | _ => none
    | _ => none
  | _, _ => none

def frz (id sz n : Nat) (f : Nat → List D) : V → V
  | .own i => bif Nat.beq i id then .d (.sl sz n f) else .own i
  | .vptr i z k o => bif Nat.beq i id then .dead else .vptr i z k o
  | v => v

def isVec : Ch → Bool
  | .vec .. => true
  | _ => false

/-- The state in which chunk id is data. -/
def frozen (s : St) (id : Nat) : St :=
  match get s.H id with
  | some (.vec e sz n f) => { L := mapL (frz id sz n f) s.L, H := mapH (frz id sz n f) (delH id s.H), m := s.m }
  | _ => s

section
variable {C : Ctx} {s : St} {a : Act} {w w' : World} {ρ : Nat → Value} {F : Nat → Prop} {g : Cfg} {K : List Item} {Φ : Exit → St → Prop}

/-- THE NEXT RUNE OF A STRING THAT IS RANGED OVER, OR THE END. -/
theorem Go.next (hn : g.n = C.n) {all : Array Oper} {o : Oper} {rest : List Oper} {id d : Nat} {b : ByteArray} {p : Nat} (hgd : o.guard = none) (ho : nextOf s o = some (id, d, b, p)) (hdn : Nat.blt d g.n = true)
    (h1 : p < b.size → Go C (.ops all rest :: K) { L := put s.L d (.tup [vb true, vi (p : Int), .d (.int .i32 ((Utf8.decode b p).1 : Int))]), H := (id, .iter b (p + (Utf8.decode b p).2)) :: delH id s.H, m := s.m } Φ)
    (h2 : ¬ p < b.size → Go C (.ops all rest :: K) { s with L := put s.L d (.tup [vb false]) } Φ) : Go C (.ops all (o :: rest) :: K) s Φ := by
  rintro a w ⟨ρ, F, h⟩
  unfold nextOf at ho
  split at ho
  · rename_i it d' hop hd
    split at ho
    · rename_i id' hit
      split at ho
      · rename_i b' p' hgH
        simp only [Option.some.injEq, Prod.mk.injEq] at ho
        obtain ⟨rfl, rfl, rfl, rfl⟩ := ho
        obtain ⟨bl, hb, hv⟩ := (show R0 ρ F w (.ptr id' 0) _ from (ev_sound h (pc_nil _) hit).1)
        obtain ⟨bl', hb', hheap⟩ := h.ch id' _ (get_mem hgH)
        rw [hb] at hb'
        simp only [Value.pointer.injEq, Option.some.injEq, Addr.mk.injEq, and_true] at hb'
        subst hb'
        have hdn' : d' < C.n := by rw [← hn]; simpa using hdn
        by_cases hp : p' < b'.size
        · have hrun : (execOp a.eval o).run C.P w = .ok (.value (.tuple #[.bool true, .int .i64 (p' : Int), .int .i32 ((Utf8.decode b' p').1 : Int)])) { w with heap := w.heap.setIfInBounds bl (.stringIter b' (p' + (Utf8.decode b' p').2)) } := by
            simp only [execOp, hop, hv]
            refine run_v ?_
            simp only [Instr.next, getObj, setObj, Sem.run_bind, Sem.run, hheap, Result.andThen, hp, if_true]
            simp [Sem.run, hheap, goInt]
          refine ops_next hgd (.inl hrun) ?_
          rw [hd]
          have hlt : bl < w.heap.size := (Array.getElem?_eq_some_iff.1 hheap).1
          have hm : Mod (blk (ρ id')) w { w with heap := w.heap.setIfInBounds bl (.stringIter b' (p' + (Utf8.decode b' p').2)) } := by
            rw [hb]
            refine ⟨rfl, rfl, rfl, by simp, fun k _ hk => ?_⟩
            have : bl ≠ k := fun e => hk (by rw [← e]; rfl)
            simp [Array.getElem?_setIfInBounds, this]
          have ht := h.touch (get_mem hgH) hm (c' := .iter b' (p' + (Utf8.decode b' p').2)) ⟨bl, hb, by simp [hlt]⟩ rfl
          exact h1 hp _ _ ⟨ρ, F, ht.put hdn' ⟨[.bool true, .int .i64 (p' : Int), .int .i32 ((Utf8.decode b' p').1 : Int)], rfl, RD.bool _, RD.int _ _, RD.int _ _, trivial⟩ rfl⟩
        · have hrun : (execOp a.eval o).run C.P w = .ok (.value (.tuple #[.bool false])) w := by
            simp only [execOp, hop, hv]
            refine run_v ?_
            simp [Instr.next, getObj, Sem.run, hheap, hp]
          refine ops_next hgd (.inl hrun) ?_
          rw [hd]
          exact h2 hp _ _ ⟨ρ, F, h.put hdn' ⟨[.bool false], rfl, RD.bool _, trivial⟩ rfl⟩
      · simp at ho
    · simp at ho
  · simp at ho

theorem frz_leaf {id sz n : Nat} {f : Nat → List D} {u : V} (h : u.leaf = true) : (frz id sz n f u).leaf = true := by
  cases u with
  | own i => simp only [frz]; cases Nat.beq i id <;> rfl
  | vptr i z k o => simp only [frz]; cases Nat.beq i id <;> rfl
  | _ => exact h
theorem frz_fresh {id sz n m : Nat} {f : Nat → List D} {u : V} (h : fresh m u = true) : fresh m (frz id sz n f u) = true := by
  cases u with
  | own i => simp only [frz]; cases Nat.beq i id <;> first | exact h | rfl
  | vptr i z k o => simp only [frz]; cases Nat.beq i id <;> first | exact h | rfl
  | _ => exact h
theorem frz1_fresh {id sz n m : Nat} {f : Nat → List D} {v : V} (hv : v.all1 (fresh m) = true) : (v.map1 (frz id sz n f)).all1 (fresh m) = true := by
  cases v with
  | fn g c => simp only [V.map1, V.all1, List.all_map, List.all_eq_true, Function.comp] at *; exact fun x hx => frz_fresh (hv x hx)
  | own i => simp only [V.map1, frz]; cases Nat.beq i id <;> first | exact hv | rfl
  | vptr i z k o => simp only [V.map1, frz]; cases Nat.beq i id <;> first | exact hv | rfl
  | _ => exact hv
theorem frz2_fresh {id sz n m : Nat} {f : Nat → List D} {v : V} (hv : v.all2 (fresh m) = true) : (v.map2 (frz id sz n f)).all2 (fresh m) = true := by
  cases v with
  | agg us => simp only [V.map2, V.all2, List.all_map, List.all_eq_true, Function.comp] at *; exact fun x hx => frz1_fresh (hv x hx)
  | fn g c => exact frz1_fresh (v := .fn g c) hv
  | own i => simp only [V.map2, V.map1, frz]; cases Nat.beq i id <;> first | exact hv | rfl
  | vptr i z k o => simp only [V.map2, V.map1, frz]; cases Nat.beq i id <;> first | exact hv | rfl
  | _ => exact hv
theorem frz3_fresh {id sz n m : Nat} {f : Nat → List D} {v : V} (hv : v.all3 (fresh m) = true) : (v.map3 (frz id sz n f)).all3 (fresh m) = true := by
  cases v with
  | tup us => simp only [V.map3, V.all3, List.all_map, List.all_eq_true, Function.comp] at *; exact fun x hx => frz2_fresh (hv x hx)
  | agg us => exact frz2_fresh (v := .agg us) hv
  | fn g c => exact frz2_fresh (v := .fn g c) hv
  | own i => simp only [V.map3, V.map2, V.map1, frz]; cases Nat.beq i id <;> first | exact hv | rfl
  | vptr i z k o => simp only [V.map3, V.map2, V.map1, frz]; cases Nat.beq i id <;> first | exact hv | rfl
  | _ => exact hv
theorem frz4_fresh {id sz n m : Nat} {f : Nat → List D} {v : V} (hv : v.all4 (fresh m) = true) : (v.map4 (frz id sz n f)).all4 (fresh m) = true := by
  cases v with
  | g p u => exact frz3_fresh hv
  | tup us => exact frz3_fresh (v := .tup us) hv
  | agg us => exact frz3_fresh (v := .agg us) hv
  | fn g c => exact frz3_fresh (v := .fn g c) hv
  | own i => simp only [V.map4, V.map3, V.map2, V.map1, frz]; cases Nat.beq i id <;> first | exact hv | rfl
  | vptr i z k o => simp only [V.map4, V.map3, V.map2, V.map1, frz]; cases Nat.beq i id <;> first | exact hv | rfl
  | _ => exact hv

/-- AN OWNED SLICE BECOMES DATA. -/
theorem Go.freeze (id : Nat) (k : Go C K (frozen s id) Φ) : Go C K s Φ := by
  rintro a w ⟨ρ, F, h⟩
  refine k a w ?_
  unfold frozen
  split
  · rename_i e sz n f hgH
    obtain ⟨xs, hown, hel⟩ := h.ch id _ (get_mem hgH)
    let F' : Nat → Prop := fun k => F k ∨ blk (ρ id) = some k
    have hFF : ∀ k, F k → F' k := fun k hk => .inl hk
    have hdat : RD F' w (.sl sz n f) (ρ id) := by
      rcases hown.2 with ⟨h1, h2⟩ | ⟨b, cap, cur, h1, _, h3, h4, h5, h6, h7⟩
      · subst h2; rw [h1]; exact .emp _ _ _ _
      · rw [h1]
        refine .sl sz n f b 0 cap (fun i j => (xs[i * sz + j]?).getD undef) (.inr (by rw [h1]; rfl)) h4 (fun i j hi hj => ?_) (fun i hi => (hel i hi).1) (fun i j d hi hd => ?_)
        · have hl := (hel i hi).1
          obtain ⟨c, c1, c2⟩ := (hel i hi).2 j _ (List.getElem?_eq_getElem (show j < (f i).length by omega))
          have := hown.cells (g := b) (by rw [h1]; rfl) _ _ c1
          rw [Addr.add_lit] at this
          rw [this, c1]; rfl
        · obtain ⟨c, c1, c2⟩ := (hel i hi).2 j d hd
          rw [c1]
          exact RD.mono hFF (fun _ _ => rfl) c2
    refine ⟨ρ, F', h.change (frz id sz n f) (fun u v hu hr => ?_) (fun t v hv => ?_) (fun i c hc => ?_) hFF (fun _ _ => rfl) (fun k hk => ?_) h.keep (Nat.le_refl _) (fun k hk => ?_) h.fixd.2⟩
    · cases u with
      | own i =>
        simp only [frz]
        cases hi : Nat.beq i id with
        | true =>
          have := Nat.eq_of_beq_eq_true hi
          subst this
          obtain ⟨h1, _⟩ := hr
          subst h1
          exact hdat
        | false => exact R0.world (u := .own i) hFF (fun _ _ => rfl) hr
      | vptr i z k o =>
        simp only [frz]
        cases hi : Nat.beq i id with
        | true => exact hr.one'
        | false => exact R0.world (u := .vptr i z k o) hFF (fun _ _ => rfl) hr
      | d x => exact R0.world (u := .d x) hFF (fun _ _ => rfl) hr
      | eptr x => exact R0.world (u := .eptr x) hFF (fun _ _ => rfl) hr
      | nils => exact hr
      | ptr i o => exact hr
      | dead => exact hr
      | _ => exact hr.elim
    · obtain ⟨v0, h1, rfl⟩ := mem_mapL hv
      exact ⟨⟨v0, h1, rfl⟩, frz4_fresh (h.freshL t v0 h1)⟩
    · obtain ⟨c0, h1, rfl⟩ := mem_mapH hc
      obtain ⟨h1, hne⟩ := mem_delH h1
      refine ⟨⟨c0, h1, rfl⟩, ?_, rfl, fun b e2 => ⟨rfl, fun hb => ?_⟩⟩
      · have := (h.freshH i c0 h1).2
        cases c0 with
        | box us => simp only [Ch.map, Ch.all, List.all_map, List.all_eq_true, Function.comp] at *; exact fun y hy => frz1_fresh (this y hy)
        | held _ _ _ _ _ u _ _ _ => exact frz1_fresh (v := u) this
        | tbl es => simp only [Ch.map, Ch.all, List.all_map, List.all_eq_true, Function.comp] at *; exact fun y hy => frz2_fresh (this y hy)
        | bld T u => exact frz1_fresh (v := u) this
        | _ => rfl
      · rw [bks_map] at e2
        rcases hb with hb | hb
        · exact h.out i c0 b h1 e2 hb
        · exact h.sep i id c0 _ b h1 (get_mem hgH) hne e2 hb
    · rcases hk with hk | hk
      · exact h.lt k hk
      · exact (h.ch id _ (get_mem hgH)).lt hk
    · rcases hk with hk | hk
      · exact h.sub k hk
      · rcases h.mine id _ k (get_mem hgH) hk with h1 | h1
        · exact .inr (.inl h1)
        · exact .inr (.inr h1)
  · exact ⟨ρ, F, h⟩
end
end Go.Sx

/-
  Sx, part 22: the words that proofs use.
-/
set_option linter.unusedVariables false
set_option linter.unusedSimpArgs false
namespace Go.Sx

def isAggV : Value → Bool
  | .agg _ => true
  | _ => false
theorem TI.mk' {P : Program} {t : TypeId} {ti : TI} {z : Value} (hu : kindOK P t ti.kind) (hi : (P.info? t).map (fun i => (i.zero, i.size, i.bytes)) = some (some z, ti.size, ti.bytes)) (hz : z.cells.size = ti.size)
    (hl : All2 litV (match ti.kind with | .array n _ => (List.replicate n ti.zero).flatten | _ => ti.zero) z.cells.toList)  (h1 : (!ti.kind.flat || z.oneCell') = true := by rfl) (h2 : (ti.kind.flat || isAggV z) = true := by rfl) : ti.OK P t := by
  have hagg := h2
  obtain ⟨i, e1, h2⟩ := Option.map_eq_some_iff.1 hi
  simp only [Prod.mk.injEq] at h2
  refine ⟨hu, ⟨i, z, e1, h2.2.1, h2.2.2, h2.1, hz, hl⟩, fun i' z' e3 e4 hf => ?_, fun i' z' e3 e4 hf => ?_⟩
  · rw [e1] at e3
    obtain rfl := Option.some.inj e3
    rw [h2.1] at e4
    obtain rfl := Option.some.inj e4
    rw [hf] at h1
    simpa using h1
  · rw [e1] at e3
    obtain rfl := Option.some.inj e3
    rw [h2.1] at e4
    obtain rfl := Option.some.inj e4
    rw [hf] at hagg
    cases z <;> first | exact ⟨_, rfl⟩ | cases hagg

theorem all2_app {us vs : List V} {cs ds : List Value} (h1 : All2 litV us cs) (h2 : All2 litV vs ds) : All2 litV (us ++ vs) (cs ++ ds) := All2.app h1 h2
theorem all2_rep {us : List V} {cs : List Value} (h : All2 litV us cs) (n : Nat) : All2 litV (List.replicate n us).flatten (List.replicate n cs).flatten := by
  induction n with
  | zero => trivial
  | succ n ih => simp only [List.replicate_succ, List.flatten_cons]; exact all2_app h ih

/-- A context that fits a program and its settings. -/
structure Cr (P : Pg) (g : Cfg) (C : Ctx) : Prop where
  prog : C.pg = P
  n : g.n = C.n
  fix : g.fix = C.fix
  tys : TysOK P.P g.tys
/-- The same, in a function's own frame. -/
structure Cx (P : Pg) (g : Cfg) (C : Ctx) : Prop extends Cr P g C where
  rd : C.rd = none

def callInfo (g : Cfg) (s : St) (o : Oper) : Option (FuncId × List V × Nat) :=
  match o.guard, o.dst with
  | none, some d => bif Nat.blt d g.n then match callOf s.L [] o with
    | some (f, A) => some (f, A, d)
    | none => none
    else none
  | _, _ => none

def callInfoG (g : Cfg) (s : St) (all : Array Oper) (o : Oper) : Option (FuncId × List V × Nat × List (Nat × Bool)) :=
  match o.guard, o.dst with
  | some (j, u), some d => match gpath s.L all j u with
    | some q => bif Nat.blt d g.n && !(q.any fun e => Nat.beq e.1 d) then match callOf s.L q o with
      | some (f, A) => some (f, A, d, q)
      | none => none
      else none
    | none => none
  | _, _ => none

namespace Cr
variable {P : Pg} {g : Cfg} {C : Ctx} (x : Cr P g C) {s s' : St} {K K' : List Item} {Φ : Exit → St → Prop} {ob : List Prop}
include x
theorem progP : C.P = P.P := congrArg Pg.P x.prog
theorem ty : TysOK C.P g.tys := x.progP ▸ x.tys

theorem cond {b : Bool} {c1 c2 : Code} (h : run g 1000 K s [] = .cond ob b c1 c2 K' s') (ho : AllP ob) (h1 : b = true → Go C (.code c1 :: K') s' Φ) (h2 : b = false → Go C (.code c2 :: K') s' Φ) : Go C K s Φ :=
  st x.ty x.n x.fix h ⟨ho, h1, h2⟩
theorem back {J : St → Prop} (h : run g 1000 K s [] = .back ob J s') (ho : AllP ob) (k : J s') : Go C K s Φ :=
  st x.ty x.n x.fix h ⟨ho, k⟩
theorem exit {e : Exit} (h : run g 1000 K s [] = .exit ob e s') (ho : AllP ob) (k : Φ e s') : Go C K s Φ :=
  st x.ty x.n x.fix h ⟨ho, k⟩
theorem op {all : Array Oper} {o : Oper} {rest : List Oper} (h : run g 1000 K s [] = .op ob all o rest K' s') (ho : AllP ob) (k : Go C (.ops all (o :: rest) :: K') s' Φ) : Go C K s Φ :=
  st x.ty x.n x.fix h ⟨ho, k⟩
theorem code {c : Code} (h : run g 1000 K s [] = .code ob c K' s') (ho : AllP ob) (k : Go C (.code c :: K') s' Φ) : Go C K s Φ :=
  st x.ty x.n x.fix h ⟨ho, k⟩
theorem loop {α : Type} (I : α → St) (μ : α → Nat) (x0 : α) {c : Code} (h : run g 1000 K s [] = .loop ob c K' s') (ho : AllP ob) (h0 : LE g.fix s' (I x0))
    (hr : ∀ y, Go C (.code c :: .back (fun s' => ∃ z, μ z < μ y ∧ LE g.fix s' (I z)) :: K') (I y) Φ) : Go C K s Φ :=
  st x.ty x.n x.fix h ⟨ho, Go.loop x.fix I μ x0 h0 hr⟩
theorem cut {α : Type} (I : α → St) {c : Code} (h1 : Go C (.code c :: .back (fun s' => ∃ y, LE g.fix s' (I y)) :: K) s Φ) (h2 : ∀ y, Go C K (I y) Φ) : Go C (.code c :: K) s Φ :=
  Go.cut x.fix I h1 h2
theorem le (h : LE g.fix s s') (k : Go C K s' Φ) : Go C K s Φ := Go.le x.fix h k

/-- A call of a function that keeps to itself. -/
theorem pure {all : Array Oper} {o : Oper} {rest : List Oper} {args A : List V} {H' : List Ch} {r : V} {f d : Nat} (h : run g 1000 K s [] = .op ob all o rest K' s') (ho : AllP ob)
    (hco : callInfo g s' o = some (f, A, d)) (hp : Pure P f args r H') (hA : AEq A (args.map (V.map3 (ren0 [])))) (k : Go C (.ops all rest :: K') (after s' d [] 0 r H' []) Φ) : Go C K s Φ := by
  refine st x.ty x.n x.fix h ⟨ho, ?_⟩
  unfold callInfo at hco
  split at hco
  · rename_i d' hg hd
    cases hb : Nat.blt d' g.n with
    | false => rw [hb] at hco; simp at hco
    | true =>
      rw [hb] at hco
      simp only [cond_true] at hco
      split at hco
      · rename_i f' A' hc
        simp only [Option.some.injEq, Prod.mk.injEq] at hco
        obtain ⟨rfl, rfl, rfl⟩ := hco
        exact Go.call x.n x.fix [] (x.prog ▸ hp) hg hd hb hc hA rfl trivial k
      · simp at hco
  · simp at hco

/-- A call that is handed chunks of ours. -/
theorem call (is : List Nat) {all : Array Oper} {o : Oper} {rest : List Oper} {fix : Nat} {args A : List V} {H H' : List Ch} {r : V} {f d : Nat} (h : run g 1000 K s [] = .op ob all o rest K' s') (ho : AllP ob)
    (hco : callInfo g s' o = some (f, A, d)) (hp : Proc P f fix args H r H') (hok : okIs g s'.m is fix H.length = true) (hA : AEq A (args.map (V.map3 (ren0 is)))) (hH : HLE s'.H (rnH is is H)) (k : Go C (.ops all rest :: K') (after s' d is fix r H' []) Φ) : Go C K s Φ := by
  refine st x.ty x.n x.fix h ⟨ho, ?_⟩
  unfold callInfo at hco
  split at hco
  · rename_i d' hg hd
    cases hb : Nat.blt d' g.n with
    | false => rw [hb] at hco; simp at hco
    | true =>
      rw [hb] at hco
      simp only [cond_true] at hco
      split at hco
      · rename_i f' A' hc
        simp only [Option.some.injEq, Prod.mk.injEq] at hco
        obtain ⟨rfl, rfl, rfl⟩ := hco
        exact Go.call x.n x.fix is (x.prog ▸ hp) hg hd hb hc hA hok hH k
      · simp at hco
  · simp at hco

/-- A call under a guard. -/
theorem pureG {all : Array Oper} {o : Oper} {rest : List Oper} {args A : List V} {r : V} {f d : Nat} {q : List (Nat × Bool)} (h : run g 1000 K s [] = .op ob all o rest K' s') (ho : AllP ob)
    (hco : callInfoG g s' all o = some (f, A, d, q)) (hp : imp s'.L q (Pure P f args r [])) (hr : r.all3 (fresh 0) = true) (hA : AEq A (args.map (V.map3 (ren0 [])))) (k : Go C (.ops all rest :: K') { s' with L := put s'.L d (.g q r) } Φ) : Go C K s Φ := by
  refine st x.ty x.n x.fix h ⟨ho, ?_⟩
  unfold callInfoG at hco
  split at hco
  · rename_i j u d' hg hd
    split at hco
    · rename_i q' hq
      cases hb : (Nat.blt d' g.n && !(q'.any fun e => Nat.beq e.1 d')) with
      | false => rw [hb] at hco; simp at hco
      | true =>
        rw [hb] at hco
        simp only [cond_true] at hco
        split at hco
        · rename_i f' A' hc
          simp only [Option.some.injEq, Prod.mk.injEq] at hco
          obtain ⟨rfl, rfl, rfl, rfl⟩ := hco
          exact Go.callG x.n x.fix hg hq hd (by simp only [Bool.and_eq_true] at hb ⊢; exact ⟨hb, hr⟩) hc (x.prog ▸ hp) hA rfl k
        · simp at hco
    · simp at hco
  · simp at hco

/-- The next rune, or the end. -/
theorem next {all : Array Oper} {o : Oper} {rest : List Oper} {id d : Nat} {b : ByteArray} {p : Nat} (h : run g 1000 K s [] = .op ob all o rest K' s') (ho : AllP ob) (hgd : o.guard = none) (hno : nextOf s' o = some (id, d, b, p)) (hdn : Nat.blt d g.n = true)
    (h1 : p < b.size → Go C (.ops all rest :: K') { L := put s'.L d (.tup [vb true, vi (p : Int), .d (.int .i32 ((Utf8.decode b p).1 : Int))]), H := (id, .iter b (p + (Utf8.decode b p).2)) :: delH id s'.H, m := s'.m } Φ)
    (h2 : ¬ p < b.size → Go C (.ops all rest :: K') { s' with L := put s'.L d (.tup [vb false]) } Φ) : Go C K s Φ :=
  st x.ty x.n x.fix h ⟨ho, Go.next x.n hgd hno hdn h1 h2⟩
end Cr

/-- ixV with its numbers written out. -/
def ixL : List V → List (Nat × V)
  | [] => []
  | [a] => [(0, a)]
  | [a, b] => [(0, a), (1, b)]
  | [a, b, c] => [(0, a), (1, b), (2, c)]
  | [a, b, c, d] => [(0, a), (1, b), (2, c), (3, d)]
  | [a, b, c, d, e] => [(0, a), (1, b), (2, c), (3, d), (4, e)]
  | [a, b, c, d, e, f] => [(0, a), (1, b), (2, c), (3, d), (4, e), (5, f)]
  | [a, b, c, d, e, f, g] => [(0, a), (1, b), (2, c), (3, d), (4, e), (5, f), (6, g)]
  | [a, b, c, d, e, f, g, h] => [(0, a), (1, b), (2, c), (3, d), (4, e), (5, f), (6, g), (7, h)]
  | [a, b, c, d, e, f, g, h, i] => [(0, a), (1, b), (2, c), (3, d), (4, e), (5, f), (6, g), (7, h), (8, i)]
  | [a, b, c, d, e, f, g, h, i, j] => [(0, a), (1, b), (2, c), (3, d), (4, e), (5, f), (6, g), (7, h), (8, i), (9, j)]
  | [a, b, c, d, e, f, g, h, i, j, k] => [(0, a), (1, b), (2, c), (3, d), (4, e), (5, f), (6, g), (7, h), (8, i), (9, j), (10, k)]
  | [a, b, c, d, e, f, g, h, i, j, k, l] => [(0, a), (1, b), (2, c), (3, d), (4, e), (5, f), (6, g), (7, h), (8, i), (9, j), (10, k), (11, l)]
  | l => ixV 0 l
theorem ixL_eq (l : List V) : ixL l = ixV 0 l := by
  unfold ixL
  split <;> rfl
/-- ixC with its numbers written out. -/
def ixH : List Ch → List (Nat × Ch)
  | [] => []
  | [a] => [(0, a)]
  | [a, b] => [(0, a), (1, b)]
  | [a, b, c] => [(0, a), (1, b), (2, c)]
  | [a, b, c, d] => [(0, a), (1, b), (2, c), (3, d)]
  | [a, b, c, d, e] => [(0, a), (1, b), (2, c), (3, d), (4, e)]
  | [a, b, c, d, e, f] => [(0, a), (1, b), (2, c), (3, d), (4, e), (5, f)]
  | [a, b, c, d, e, f, g] => [(0, a), (1, b), (2, c), (3, d), (4, e), (5, f), (6, g)]
  | [a, b, c, d, e, f, g, h] => [(0, a), (1, b), (2, c), (3, d), (4, e), (5, f), (6, g), (7, h)]
  | [a, b, c, d, e, f, g, h, i] => [(0, a), (1, b), (2, c), (3, d), (4, e), (5, f), (6, g), (7, h), (8, i)]
  | [a, b, c, d, e, f, g, h, i, j] => [(0, a), (1, b), (2, c), (3, d), (4, e), (5, f), (6, g), (7, h), (8, i), (9, j)]
  | [a, b, c, d, e, f, g, h, i, j, k] => [(0, a), (1, b), (2, c), (3, d), (4, e), (5, f), (6, g), (7, h), (8, i), (9, j), (10, k)]
  | [a, b, c, d, e, f, g, h, i, j, k, l] => [(0, a), (1, b), (2, c), (3, d), (4, e), (5, f), (6, g), (7, h), (8, i), (9, j), (10, k), (11, l)]
  | l => ixC 0 l
theorem ixH_eq (l : List Ch) : ixH l = ixC 0 l := by
  unfold ixH
  split <;> rfl
def lenL : List Ch → Nat
  | [] => 0
  | [_] => 1
  | [_, _] => 2
  | [_, _, _] => 3
  | [_, _, _, _] => 4
  | [_, _, _, _, _] => 5
  | [_, _, _, _, _, _] => 6
  | [_, _, _, _, _, _, _] => 7
  | [_, _, _, _, _, _, _, _] => 8
  | l => l.length
theorem lenL_eq (l : List Ch) : lenL l = l.length := by
  unfold lenL
  split <;> rfl

/-- Proc.intro, with the context's facts in one. -/
theorem Proc.mk {P : Pg} (g : Cfg) (htys : TysOK P.P g.tys) (ids : List Nat) {f : FuncId} {fn : Func} {c : Code} {args : List V} {H : List Ch} {r : V} {H' : List Ch} {rs : List ResultVar} (hf : P.P.funcs[f]? = some fn) (hb : fn.body = some c) (hname : (fn.name == "runtime.NumGoroutine") = false)
    (hn : g.n = fn.ntmps) (hrs : fn.results = rs.toArray) (hok : (Nat.ble args.length g.n && freshAll args H H.length && freshAll [r] H' H'.length && Nat.ble g.fix H.length && Nat.ble H.length H'.length) = true)
    (hgo : ∀ (C : Ctx), Cx P g C → Go C [.code c] ⟨ixL args, ixH H, lenL H⟩ (Ret g rs ids r H')) : Proc P f g.fix args H r H' := by
  simp only [Bool.and_eq_true] at hok
  obtain ⟨⟨⟨⟨h1, h2⟩, h3⟩, h4⟩, h5⟩ := hok
  exact Proc.intro hf hb hname htys hn hrs h1 h2 h3 h4 h5 ids fun C e1 e2 e3 _ e5 _ => by rw [← ixL_eq, ← ixH_eq, ← lenL_eq]; exact hgo C ⟨⟨e1, e2, e3, htys⟩, e5⟩
end Go.Sx

/-
  Sx, part 23: calls under a guard, over chunks of ours that they only read.
-/
set_option linter.unusedVariables false
set_option linter.unusedSimpArgs false
namespace Go.Sx
section
variable {C : Ctx} {s : St} {a : Act} {w : World} {ρ : Nat → Value} {F : Nat → Prop} {g : Cfg} {K : List Item} {Φ : Exit → St → Prop}

theorem SatW.leH {H' : List (Nat × Ch)} (h : SatW C s a w ρ F) (hH : HLE s.H H') (hok : okH s.m H' = true) : SatW C { s with H := H' } a w ρ F := by
  exact
    { size := h.size, defers := h.defers, slot := h.slot, freshL := h.freshL, lt := h.lt, sub := h.sub, base := h.base, fixd := h.fixd, keep := h.keep, env := h.env
      ch := fun i c hc => by
        obtain ⟨u, hu, he⟩ := HLE_mem hH hc
        exact ChEq_sound he (h.ch i u hu)
      sep := fun i j ci cj b hi hj hij e => by
        obtain ⟨u, hu, he⟩ := HLE_mem hH hi
        obtain ⟨u2, hu2, he2⟩ := HLE_mem hH hj
        exact fun e2 => h.sep i j u u2 b hu hu2 hij (ChEq_bks he e) (ChEq_bks he2 e2)
      out := fun i c b hi e => by
        obtain ⟨u, hu, he⟩ := HLE_mem hH hi
        exact h.out i u b hu (ChEq_bks he e)
      freshH := fun i c hi => okH_mem hok hi
      mine := fun i c b hi e => by
        obtain ⟨u, hu, he⟩ := HLE_mem hH hi
        exact h.mine i u b hu (ChEq_bks he e) }

theorem mapL_id (L : List (Nat × V)) : mapL (killIn []) L = L := by
  have hk : (killIn ([] : List Nat)) = fun u => u := by funext u; cases u <;> rfl
  rw [hk]
  induction L with
  | nil => rfl
  | cons e L ih => simp [mapL, map4_id, ih]
theorem mapH_id (L : List (Nat × Ch)) : mapH (killIn []) L = L := by
  have hk : (killIn ([] : List Nat)) = fun u => u := by funext u; cases u <;> rfl
  rw [hk]
  induction L with
  | nil => rfl
  | cons e L ih => simp [mapH, chmap_id, ih]

/-- A call under a guard that only reads chunks of ours. -/
theorem Go.callGH (hn : g.n = C.n) (hfxg : g.fix = C.fix) {all : Array Oper} {o : Oper} {rest : List Oper} (is : List Nat) {fix : Nat} {args : List V} {H : List Ch} {r : V} {f : FuncId} {A : List V} {d j : Nat} {u : Bool} {q : List (Nat × Bool)}
    (hgd : o.guard = some (j, u)) (hgp : gpath s.L all j u = some q) (hd : o.dst = some d) (hdn : (Nat.blt d g.n && !(q.any fun e => Nat.beq e.1 d) && r.all3 (fresh 0)) = true) (hco : callOf s.L q o = some (f, A))
    (hp : imp s.L q (Proc C.pg f fix args H r H)) (hdr : dropN fix is = []) (hA : AEq A (args.map (V.map3 (ren0 is)))) (hok : okIs g s.m is fix H.length = true) (hH : HLE s.H (rnH is is H)) (hH' : HLE (app2 (rnH is is H) (delAll is s.H)) s.H) (hoH : okH s.m s.H = true)
    (k : Go C (.ops all rest :: K) { s with L := put s.L d (.g q r) } Φ) : Go C (.ops all (o :: rest) :: K) s Φ := by
  rintro a w ⟨ρ, F, h⟩
  simp only [Bool.and_eq_true, Bool.not_eq_true'] at hdn
  obtain ⟨⟨b1, b2⟩, b3⟩ := hdn
  have hgs := gpath_sound h hgp
  have hwant : Region.wanted o (yielded all a.tmps) = true ↔ pcA a.tmps q := by rw [← hgs]; simp [Region.wanted, hgd]
  show wqList C.rd C.P all (den C (conc C Φ) K) (o :: rest) a w
  refine wqList_step fun N hN => ?_
  cases hw : Region.wanted o (yielded all a.tmps) with
  | true =>
    have hpc := hwant.1 hw
    have hp := imp_sound h hpc hp
    obtain ⟨vals, h1, h2⟩ := call_run h hfxg hpc hco hp hA hok hH
    simp only [if_true]
    refine wqO_of h1 trivial ?_
    rw [Oper.upon_enter]
    refine h2.mono ?_
    rintro e w' ⟨v, ρ', F', rfl, r1, r2, r3⟩
    refine hN _ _ ?_
    rw [hd]
    have hl : is.length = H.length := by
      simp only [okIs, Bool.and_eq_true] at hok
      exact Nat.eq_of_beq_eq_true hok.2
    have hids : app2 is (newIds s.m (H.length - is.length)) = is := by
      rw [hl, Nat.sub_self]
      show app2 is [] = is
      rw [app2_eq, List.append_nil]
    have r1' : R3 ρ' F' w' r v := by
      have hid : (r.map3 (ren0 (app2 is (newIds s.m (H.length - is.length))))) = r.map3 (ren0 []) := by
        have e0 : ∀ (js : List Nat) (u : V), fresh 0 u = true → ren0 js u = ren0 [] u := fun js u hu => by cases u <;> first | rfl | simp [fresh] at hu
        have e1 : ∀ (js : List Nat) (u : V), u.all1 (fresh 0) = true → u.map1 (ren0 js) = u.map1 (ren0 []) := fun js u hu => by
          cases u with
          | fn f c => simp only [V.map1, V.fn.injEq, true_and]; exact List.map_congr_left fun x hx => e0 js x (by simpa using (List.all_eq_true.1 hu) x hx)
          | _ => (first | exact e0 js (.d _) hu | exact e0 js .nils hu | exact e0 js (.ptr _ _) hu | exact e0 js (.own _) hu | exact e0 js (.vptr _ _ _ _) hu | exact e0 js (.eptr _) hu | exact e0 js (.fn _ _) hu | exact e0 js (.agg _) hu | exact e0 js (.tup _) hu | exact e0 js (.g _ _) hu | exact e0 js .dead hu)
        have e2 : ∀ (js : List Nat) (u : V), u.all2 (fresh 0) = true → u.map2 (ren0 js) = u.map2 (ren0 []) := fun js u hu => by
          cases u with
          | agg c => simp only [V.map2, V.agg.injEq]; exact List.map_congr_left fun x hx => e1 js x (by simpa using (List.all_eq_true.1 hu) x hx)
          | _ => (first | exact e1 js (.d _) hu | exact e1 js .nils hu | exact e1 js (.ptr _ _) hu | exact e1 js (.own _) hu | exact e1 js (.vptr _ _ _ _) hu | exact e1 js (.eptr _) hu | exact e1 js (.fn _ _) hu | exact e1 js (.agg _) hu | exact e1 js (.tup _) hu | exact e1 js (.g _ _) hu | exact e1 js .dead hu)
        cases r with
        | tup c => simp only [V.map3, V.tup.injEq]; exact List.map_congr_left fun x hx => e2 _ x (by simpa using (List.all_eq_true.1 b3) x hx)
        | _ => (first | rfl | exact e2 _ (.d _) b3 | exact e2 _ .nils b3 | exact e2 _ (.ptr _ _) b3 | exact e2 _ (.own _) b3 | exact e2 _ (.vptr _ _ _ _) b3 | exact e2 _ (.eptr _) b3 | exact e2 _ (.fn _ _) b3 | exact e2 _ (.agg _) b3 | exact e2 _ (.tup _) b3 | exact e2 _ (.g _ _) b3 | exact e2 _ .dead b3)
      rw [hid] at r1
      exact R3.unren (ρ := ρ') (is := []) (k := 0) (fun i hi => by omega) b3 r1
    have r3' : SatW C s a w' ρ' F' := by
      rw [hdr, mapL_id, mapH_id, hids, hl, Nat.sub_self] at r3
      exact r3.leH hH' hoH
    exact k _ _ ⟨ρ', F', r3'.putS (by rw [← hn]; simpa using b1) ⟨fun _ => r1', fun hno => (hno ((pcA_put b2).2 hpc)).elim⟩ (all3_imp (fun u hu => fresh_mono (Nat.zero_le _) hu) b3)⟩
  | false =>
    simp only [Bool.false_eq_true, if_false]
    have hpc : ¬ pcA a.tmps q := fun hc => by rw [hwant.2 hc] at hw; cases hw
    refine hN _ _ ?_
    rw [hd]
    exact k _ _ ⟨ρ, F, h.putS (by rw [← hn]; simpa using b1) ⟨fun hc => (hpc ((pcA_put b2).1 hc)).elim, fun _ => rfl⟩ (all3_imp (fun u hu => fresh_mono (Nat.zero_le _) hu) b3)⟩
end

theorem Cr.callG {P : Pg} {g : Cfg} {C : Ctx} (x : Cr P g C) {s s' : St} {K K' : List Item} {Φ : Exit → St → Prop} {ob : List Prop} (is : List Nat) {all : Array Oper} {o : Oper} {rest : List Oper} {fix : Nat} {args A : List V} {H : List Ch} {r : V} {f d : Nat} {q : List (Nat × Bool)} (h : run g 1000 K s [] = .op ob all o rest K' s') (ho : AllP ob)
    (hco : callInfoG g s' all o = some (f, A, d, q)) (hp : imp s'.L q (Proc P f fix args H r H)) (hr : (r.all3 (fresh 0) && okIs g s'.m is fix H.length && okH s'.m s'.H && List.isEmpty (dropN fix is)) = true) (hA : AEq A (args.map (V.map3 (ren0 is)))) (hH : HLE s'.H (rnH is is H)) (hH' : HLE (app2 (rnH is is H) (delAll is s'.H)) s'.H)
    (k : Go C (.ops all rest :: K') { s' with L := put s'.L d (.g q r) } Φ) : Go C K s Φ := by
  refine st x.ty x.n x.fix h ⟨ho, ?_⟩
  unfold callInfoG at hco
  split at hco
  · rename_i j u d' hg hd
    split at hco
    · rename_i q' hq
      cases hb : (Nat.blt d' g.n && !(q'.any fun e => Nat.beq e.1 d')) with
      | false => rw [hb] at hco; simp at hco
      | true =>
        rw [hb] at hco
        simp only [cond_true] at hco
        split at hco
        · rename_i f' A' hc
          simp only [Option.some.injEq, Prod.mk.injEq] at hco
          obtain ⟨rfl, rfl, rfl, rfl⟩ := hco
          simp only [Bool.and_eq_true, List.isEmpty_iff] at hr
          exact Go.callGH x.n x.fix is hg hq hd (by simp only [Bool.and_eq_true] at hb ⊢; exact ⟨hb, hr.1.1.1⟩) hc (x.prog ▸ hp) hr.2 hA hr.1.1.2 hH hH' hr.1.2 k
        · simp at hco
    · simp at hco
  · simp at hco
end Go.Sx

/-
  Sx, part 24: from a contract to the walk that a law's statement wants.
-/
set_option linter.unusedVariables false
set_option linter.unusedSimpArgs false
namespace Go.Sx

theorem Post.below {w w' : World} {F : Nat → Prop} {ρ : Nat → Value} {r : V} {H' : List Ch} {e : Ending} (h : Post w F ρ 0 [] r H' e w') : Go.RowKit.Below w.heap.size w w' := by
  obtain ⟨v, ρ', F', _, hk, _⟩ := h
  exact ⟨hk.os, hk.tape, hk.output, hk.size, fun k hlt => hk.block k hlt (fun ⟨i, hi, _⟩ => absurd hi (Nat.not_lt_zero _))⟩

/-- A LAW's WALK, by its contract: the arguments are data of blocks that lay there. -/
theorem Proc.law {P : Pg} {f : FuncId} {args : List V} {H' : List Ch} (h : Pure P f args (vb true) H') {w : World} {vals : List Value} {vs : Array Value} (hvs : vs = vals.toArray)
    (henv : EnvOK P.env (fun k => k < w.heap.size) w) (hargs : All2 (R3 (fun _ => .bool true) (fun k => k < w.heap.size) w) args vals) : Calls P.P f vs w fun e w' => e = .returned (.bool true) ∧ Go.RowKit.Below w.heap.size w w' := by
  subst hvs
  obtain ⟨_, _, _, _, _, hc⟩ := h
  refine (hc w (fun k => k < w.heap.size) (fun _ => .bool true) vals (fun k hk => hk) henv ⟨fun i c hc => by simp at hc, fun i j b hi => absurd hi (Nat.not_lt_zero _), fun i b hi => absurd hi (Nat.not_lt_zero _)⟩ hargs).mono ?_
  intro e w' hp
  refine ⟨?_, hp.below⟩
  obtain ⟨v, ρ', F', rfl, _, _, _, _, _, hr, _⟩ := hp
  have : v = .bool true := by
    cases (show RD F' w' (.bool true) v from hr); rfl
  rw [this]
/-- Of an integer that fits. -/
theorem wf_i64 {n : Int} (h : (Lit.int .i64 n).wf = true) : inI64 n := by
  simp only [Lit.wf, Bool.and_eq_true, decide_eq_true_eq, IntKind.min_i64, IntKind.max_i64] at h
  exact h
theorem wf_i32 {n : Int} (h : (Lit.int .i32 n).wf = true) : -2147483648 ≤ n ∧ n ≤ 2147483647 := by
  simp only [Lit.wf, Bool.and_eq_true, decide_eq_true_eq, IntKind.min_i32, IntKind.max_i32] at h
  exact h
theorem inI64_of_i32 {n : Int} (h : (Lit.int .i32 n).wf = true) : inI64 n := by
  have := wf_i32 h
  unfold inI64
  omega
end Go.Sx

/-
  Sx, part 25: statements that draw their order: where the operations only read, or call functions whose answer is plain, one walk serves every order.
-/
set_option linter.unusedVariables false
set_option linter.unusedSimpArgs false
namespace Go.Sx

inductive QEv where
  | done (ob : List Prop) (s : St)
  | op (ob : List Prop) (o : Oper) (rest : List Oper) (s : St)
  | stuck (why : String)

def qrun (g : Cfg) (all : Array Oper) : Nat → List Oper → St → List Prop → QEv
  | 0, _, _, _ => .stuck "fuel"
  | n + 1, l, ⟨L, H, m⟩, ob => match l with
   | [] => fS ⟨L, H, m⟩ fun S => fO ob fun ob => .done ob S
   | o :: rest => match o.guard with
    | none => match rdE g g.ck ⟨L, H, m⟩ [] o.op with
      | some (v, p) => match o.dst with
        | some d => bif Nat.blt d g.n then f3 v fun v => fL (put L d v) fun L' => fA ob p fun ob => qrun g all n rest ⟨L', H, m⟩ ob else .stuck "slot"
        | none => .stuck "no slot"
      | none => fS ⟨L, H, m⟩ fun S => fO ob fun ob => .op ob o rest S
    | some (j, u) => match gpath L all j u with
      | none => .stuck "guard"
      | some q => match rdE g g.ck ⟨L, H, m⟩ q o.op with
        | some (v, p) => match o.dst with
          | some d => bif Nat.blt d g.n && !(q.any fun e => Nat.beq e.1 d) && v.all3 (fresh m) then fIs L q p fun p => f3 v fun v => fP q fun q => fL (put L d (.g q v)) fun L' => fA ob p fun ob => qrun g all n rest ⟨L', H, m⟩ ob else .stuck "slot"
          | none => .stuck "no slot"
        | none => fS ⟨L, H, m⟩ fun S => fO ob fun ob => .op ob o rest S

def QGo (C : Ctx) (all : Array Oper) (l : List Oper) (s : St) (K : List Item) (Φ : Exit → St → Prop) : Prop :=
  ∀ a w ρ F, SatW C s a w ρ F → wpQuiet C.P all (Mod none w) (fun a' => ∀ w', Mod none w w' → den C (conc C Φ) K .normal a' w') l a

def QEv.holds (C : Ctx) (all : Array Oper) (K : List Item) (Φ : Exit → St → Prop) : QEv → Prop
  | .done ob s => AllP ob ∧ Go C K s Φ
  | .op ob o rest s => AllP ob ∧ QGo C all (o :: rest) s K Φ
  | .stuck _ => False

section
variable {C : Ctx} {s : St} {a : Act} {w w' : World} {ρ : Nat → Value} {F : Nat → Prop} {g : Cfg} {K : List Item} {Φ : Exit → St → Prop}

theorem SatW.mod (h : SatW C s a w ρ F) (hm : Mod none w w') : SatW C s a w' ρ F := by
  have hwF : ∀ k, F k → w'.heap[k]? = w.heap[k]? := fun k hk => hm.block k (h.lt k hk) (by simp)
  refine h.change (fun u => u) (fun u v hu hr => hr.keep (x := s.m) (fun _ _ => rfl) (fun _ => id) hwF (fresh_names (Nat.le_refl _) hu)) (fun t v hv => ⟨⟨v, hv, (map4_id v).symm⟩, h.freshL t v hv⟩) (fun i c hc => ?_) (fun _ => id) hwF (fun k hk => Nat.lt_of_lt_of_le (h.lt k hk) hm.size) (h.keeps hm (by simp)) (Nat.le_refl _) h.sub h.fixd.2
  exact ⟨⟨c, hc, (chmap_id c).symm⟩, (h.freshH i c hc).2, rfl, fun b e => ⟨hm.block b ((h.ch i c hc).lt e) (by simp), h.out i c b hc e⟩⟩

theorem Mod.trans {w w' w'' : World} (h : Mod none w w') (h' : Mod none w' w'') : Mod none w w'' :=
  ⟨h'.os.trans h.os, h'.tape.trans h.tape, h'.output.trans h.output, Nat.le_trans h.size h'.size, fun k hk _ => (h'.block k (Nat.lt_of_lt_of_le hk h.size) (by simp)).trans (h.block k hk (by simp))⟩

theorem QGo.op_next {all : Array Oper} {o : Oper} {rest : List Oper} {Q : Act → Prop} (hg : o.guard = none) {x : Value}
    (hr : ∀ w', Mod none w w' → Oper.quietAt C.P o a (Mod none w) w' x) (h : wpQuiet C.P all (Mod none w) Q rest (a.put o.dst x)) : wpQuiet C.P all (Mod none w) Q (o :: rest) a := by
  refine wpQuiet_step fun N hN => ?_
  rw [if_pos (by simp [Region.wanted, hg])]
  exact ⟨x, hr, hN _ h⟩
theorem QGo.op_guarded {all : Array Oper} {o : Oper} {rest : List Oper} {Q : Act → Prop} {x : Value}
    (hyes : Region.wanted o (yielded all a.tmps) = true → ∀ w', Mod none w w' → Oper.quietAt C.P o a (Mod none w) w' x) (hno : Region.wanted o (yielded all a.tmps) = false → x = undef)
    (h : wpQuiet C.P all (Mod none w) Q rest (a.put o.dst x)) : wpQuiet C.P all (Mod none w) Q (o :: rest) a := by
  refine wpQuiet_step fun N hN => ?_
  cases hw : Region.wanted o (yielded all a.tmps) with
  | true => rw [if_pos rfl]; exact ⟨x, hyes hw, hN _ h⟩
  | false => rw [if_neg (by simp)]; exact hN _ (hno hw ▸ h)

theorem qrun_holds (hg : TysOK C.P g.tys) (hn : g.n = C.n) {all : Array Oper} : ∀ (n : Nat) (l : List Oper) (s : St) (ob : List Prop), (qrun g all n l s ob).holds C all K Φ → AllP ob ∧ QGo C all l s K Φ := by
  intro n
  induction n with
  | zero => intro l s ob h; exact h.elim
  | succ n ih =>
    rintro l ⟨L, H, m⟩ ob h
    cases l with
    | nil =>
      unfold qrun at h
      simp only [fS_eq, fO_eq] at h
      exact ⟨h.1, fun a w ρ F hs => wpQuiet_nil fun w' hm => h.2 a w' ⟨ρ, F, hs.mod hm⟩⟩
    | cons o rest =>
    unfold qrun at h
    simp only at h
    split at h
    · rename_i hgd
      split at h
      · rename_i v p hrd
        split at h
        · rename_i d hd
          cases hb : Nat.blt d g.n with
          | false => rw [hb] at h; exact h.elim
          | true =>
            rw [hb] at h
            simp only [cond_true, f3_eq, fL_eq, fA_eq] at h
            obtain ⟨h1, h2⟩ := ih _ _ _ h
            obtain ⟨h3, h4⟩ := AllP_app h1
            refine ⟨h3, fun a w ρ F hw => ?_⟩
            obtain ⟨x, r1, r2, r3⟩ := rd_sound hg hw (pc_nil _) hrd h4
            refine QGo.op_next hgd (x := x) (fun w' hm => ?_) ?_
            · unfold Oper.quietAt
              rw [r3 w' fun k hk => hm.block k hk (by simp)]
              exact ⟨rfl, rfl⟩
            · rw [hd]
              exact h2 _ _ _ _ (hw.put (by rw [← hn]; simpa using hb) r1 r2)
        · exact h.elim
      · rw [fS_eq, fO_eq] at h; exact h
    · rename_i j u hgd
      split at h
      · exact h.elim
      · rename_i q hq
        split at h
        · rename_i v p hrd
          split at h
          · rename_i d hd
            cases hb : (Nat.blt d g.n && !(q.any fun e => Nat.beq e.1 d) && v.all3 (fresh m)) with
            | false => rw [hb] at h; exact h.elim
            | true =>
              rw [hb] at h
              simp only [cond_true, fIs_eq, f3_eq, fL_eq, fP_eq, fA_eq] at h
              simp only [Bool.and_eq_true, Bool.not_eq_true'] at hb
              obtain ⟨⟨b1, b2⟩, b3⟩ := hb
              obtain ⟨h1, h2⟩ := ih _ _ _ h
              obtain ⟨h3, h4⟩ := AllP_app h1
              refine ⟨h3, fun a w ρ F hw => ?_⟩
              have hgp := gpath_sound hw hq
              have hwant : Region.wanted o (yielded all a.tmps) = true ↔ pcA a.tmps q := by
                rw [← hgp]; simp [Region.wanted, hgd]
              by_cases hpc : pcA a.tmps q
              · obtain ⟨x, r1, r2, r3⟩ := rd_sound hg hw hpc hrd (imps_sound hw hpc h4)
                refine QGo.op_guarded (x := x) (fun _ w' hm => ?_) (fun hno => by rw [hwant.2 hpc] at hno; simp at hno) ?_
                · unfold Oper.quietAt
                  rw [r3 w' fun k hk => hm.block k hk (by simp)]
                  exact ⟨rfl, rfl⟩
                · rw [hd]
                  exact h2 _ _ _ _ (hw.putS (by rw [← hn]; simpa using b1) ⟨fun _ => r1, fun hno => (hno ((pcA_put b2).2 hpc)).elim⟩ b3)
              · refine QGo.op_guarded (x := undef) (fun hyes => (hpc (hwant.1 hyes)).elim) (fun _ => rfl) ?_
                rw [hd]
                exact h2 _ _ _ _ (hw.putS (by rw [← hn]; simpa using b1) ⟨fun hp => (hpc ((pcA_put b2).1 hp)).elim, fun _ => rfl⟩ b3)
          · exact h.elim
        · rw [fS_eq, fO_eq] at h; exact h

/-- Plain answers: their value is known. -/
def val0 : V → Option Value
  | .d (.int k n) => some (.int k n)
  | .d (.bool b) => some (.bool b)
  | .d (.str s) => some (.string s)
  | _ => none
def val0s : List V → Option (List Value)
  | [] => some []
  | v :: r => match val0 v, val0s r with
    | some x, some xs => some (x :: xs)
    | _, _ => none
def valOf : V → Option Value
  | .tup us => match val0s us with
    | some xs => some (.tuple xs.toArray)
    | none => none
  | v => val0 v

theorem val0_sound {v : V} {x y : Value} (h : val0 v = some x) (hr : R3 ρ F w v y) : y = x := by
  cases v with
  | d e =>
    cases e <;> simp only [val0, Option.some.injEq, reduceCtorEq] at h <;> subst h <;> cases (show RD F w _ y from hr) <;> rfl
  | _ => simp [val0] at h
theorem val0s_sound {us : List V} : ∀ {xs ys : List Value}, val0s us = some xs → All2 (R2 ρ F w) us ys → ys = xs := by
  induction us with
  | nil => intro xs ys h hr; cases ys with
    | nil => simpa [val0s] using h
    | cons => exact hr.elim
  | cons u us ih =>
    intro xs ys h hr
    cases ys with
    | nil => exact hr.elim
    | cons y ys =>
      simp only [val0s] at h
      split at h
      · rename_i x0 xs0 e1 e2
        simp only [Option.some.injEq] at h
        subst h
        rw [val0_sound e1 (R3_of hr.1), ih e2 hr.2]
      · simp at h
theorem valOf_sound {v : V} {x y : Value} (h : valOf v = some x) (hr : R3 ρ F w v y) : y = x := by
  cases v with
  | tup us =>
    simp only [valOf] at h
    split at h
    · rename_i xs e
      simp only [Option.some.injEq] at h
      obtain ⟨ys, rfl, hy⟩ := hr
      rw [← h, val0s_sound e hy]
    · simp at h
  | _ => (first | exact val0_sound (v := .nils) h hr | exact val0_sound (v := (.ptr _ _)) h hr | exact val0_sound (v := (.own _)) h hr | exact val0_sound (v := (.vptr _ _ _ _)) h hr | exact val0_sound (v := (.eptr _)) h hr | exact val0_sound (v := (.fn _ _)) h hr | exact val0_sound (v := (.agg _)) h hr | exact val0_sound (v := (.g _ _)) h hr | exact val0_sound (v := .dead) h hr | exact val0_sound (v := (.d _)) h hr)

/-- A call, carried out in a world: its contract. -/
theorem call_raw (h : SatW C s a w ρ F) (hfxg : g.fix = C.fix) {q : List (Nat × Bool)} (hq : pcA a.tmps q) {o : Oper} {f : FuncId} {A : List V} (hco : callOf s.L q o = some (f, A))
    {is : List Nat} {fix : Nat} {args : List V} {H H' : List Ch} {r : V} (hp : Proc C.pg f fix args H r H') (hA : AEq A (args.map (V.map3 (ren0 is)))) (hok : okIs g s.m is fix H.length = true) (hH : HLE s.H (rnH is is H)) :
    ∃ vals, (execOp a.eval o).run C.P w = .ok (.enter f vals) w ∧ Calls C.P f vals w (Post w F (fun i => ρ (nth is i)) fix H r H') := by
  obtain ⟨hcall, hfr, hfr', hfx, hHH, hcalls⟩ := hp
  unfold callOf at hco
  split at hco
  · rename_i c hop
    split at hco
    · rename_i fo hc
      split at hco
      · rename_i f' caps A' he hes
        simp only [Option.some.injEq, Prod.mk.injEq] at hco
        obtain ⟨rfl, rfl⟩ := hco
        obtain ⟨cs, hcs, hcaps⟩ := (show R1 ρ F w (.fn f' caps) _ from (ev_sound h hq he).1)
        have hargs := (evs_sound h hq hes).1
        simp only [okIs, Bool.and_eq_true, List.all_eq_true] at hok
        obtain ⟨⟨⟨o1, o2⟩, o3⟩, o4⟩ := hok
        have hisl := Nat.eq_of_beq_eq_true o4
        simp only [freshAll, Bool.and_eq_true, List.all_eq_true] at hfr
        have hvals : c.args.map a.eval ++ cs.toArray = (c.args.toList.map a.eval ++ cs).toArray := by
          cases c.args; simp
        have hall : All2 (R3 ρ F w) (A' ++ caps) (c.args.toList.map a.eval ++ cs) := hargs.app (hcaps.mono fun u v hr => R3_of (R2_of (R1_of hr)))
        have hall2 := AEq_sound hA hall
        have hall3 : All2 (R3 (fun i => ρ (nth is i)) F w) args (c.args.toList.map a.eval ++ cs) := hall2.unmap fun u v hu hr => R3.unren (k := H.length) (fun _ _ => rfl) (hfr.1 u hu) hr
        have hold : Holds (fun i => ρ (nth is i)) F w H := by
          have hx : ∀ i, i < H.length → ∃ c, H[i]? = some c ∧ ∃ c0, (nth is i, c0) ∈ s.H ∧ ChEq c0 (c.map (ren0 is)) := fun i hi => by
            obtain ⟨c0, k1, k2⟩ := rnH_mem hisl hH (List.getElem?_eq_getElem hi)
            exact ⟨_, List.getElem?_eq_getElem hi, c0, k1, k2⟩
          refine ⟨fun i c hc => ?_, fun i j b hi hj hij e => ?_, fun i b hi e => ?_⟩
          · have hi := (List.getElem?_eq_some_iff.1 hc).1
            obtain ⟨c', hc', c0, k1, k2⟩ := hx i hi
            rw [hc] at hc'
            obtain rfl := Option.some.inj hc'
            exact ChOK.unren (k := H.length) (ρ := fun i => ρ (nth is i)) (fun _ _ => rfl) hi (hfr.2 c (List.mem_of_getElem? hc)).1 (ChEq_sound k2 (h.ch _ _ k1))
          · obtain ⟨_, _, c0, k1, _⟩ := hx i hi
            obtain ⟨_, _, c1, k3, _⟩ := hx j hj
            exact fun e2 => h.sep _ _ c0 c1 b k1 k3 (nodupB_sound o1 i j (by omega) (by omega) hij) (bks_main e) (bks_main e2)
          · obtain ⟨_, _, c0, k1, _⟩ := hx i hi
            exact h.out _ c0 b k1 (bks_main e)
        refine ⟨_, run_call hop hc hcs hcall w, ?_⟩
        rw [hvals]
        exact hcalls w F _ _ h.lt h.env hold hall3
      · simp at hco
    · simp at hco
  · simp at hco

theorem val0_mk {v : V} {x : Value} (h : val0 v = some x) : R0 ρ F w v x := by
  cases v with
  | d e =>
    cases e <;> simp only [val0, Option.some.injEq, reduceCtorEq] at h <;> subst h
    · exact RD.int _ _
    · exact RD.bool _
    · exact RD.str _
  | _ => simp [val0] at h
theorem val0s_mk {us : List V} : ∀ {xs : List Value}, val0s us = some xs → All2 (R2 ρ F w) us xs := by
  induction us with
  | nil => intro xs h; simp [val0s] at h; subst h; trivial
  | cons u us ih =>
    intro xs h
    simp only [val0s] at h
    split at h
    · rename_i x0 xs0 e1 e2
      simp only [Option.some.injEq] at h
      subst h
      exact ⟨R2_of (R1_of (val0_mk e1)), ih e2⟩
    · simp at h
theorem val_of0 {v : V} (h : ∀ us, v ≠ .tup us) : valOf v = val0 v := by cases v <;> first | rfl | exact (h _ rfl).elim
theorem valOf_mk {v : V} {x : Value} (h : valOf v = some x) : R3 ρ F w v x := by
  by_cases ht : ∃ us, v = .tup us
  · obtain ⟨us, rfl⟩ := ht
    simp only [valOf] at h
    split at h
    · rename_i xs e
      simp only [Option.some.injEq] at h
      exact ⟨xs, h.symm, val0s_mk e⟩
    · simp at h
  · rw [val_of0 fun us e => ht ⟨us, e⟩] at h
    exact R3_of (R2_of (R1_of (val0_mk h)))

theorem quiet_call (h : SatW C s a w ρ F) (hfxg : g.fix = C.fix) {q : List (Nat × Bool)} (hq : pcA a.tmps q) {o : Oper} {f : FuncId} {A : List V} (hco : callOf s.L q o = some (f, A)) {args : List V} {r : V} {x : Value}
    (hp : Pure C.pg f args r []) (hx : valOf r = some x) (hA : AEq A (args.map (V.map3 (ren0 [])))) {w' : World} (hm : Mod none w w') : Oper.quietAt C.P o a (Mod none w) w' x := by
  obtain ⟨vals, h1, h2⟩ := call_raw (h.mod hm) hfxg hq hco hp hA (show okIs g s.m [] 0 0 = true from rfl) trivial
  unfold Oper.quietAt
  rw [h1]
  refine ⟨rfl, h2.mono ?_⟩
  rintro e w'' ⟨v, ρ', F', rfl, hk, _, _, _, _, hr, _⟩
  rw [valOf_sound hx hr]
  exact ⟨rfl, hm.trans ⟨hk.os, hk.tape, hk.output, hk.size, fun k hlt _ => hk.block k hlt (fun ⟨i, hi, _⟩ => absurd hi (Nat.not_lt_zero _))⟩⟩

/-- A call with a plain answer. -/
theorem QGo.call (hn : g.n = C.n) (hfxg : g.fix = C.fix) {all : Array Oper} {o : Oper} {rest : List Oper} {args : List V} {r : V} {f : FuncId} {A : List V} {d : Nat} {x : Value}
    (hp : Pure C.pg f args r []) (hx : valOf r = some x) (hgd : o.guard = none) (hd : o.dst = some d) (hdn : (Nat.blt d g.n && r.all3 (fresh 0)) = true) (hco : callOf s.L [] o = some (f, A)) (hA : AEq A (args.map (V.map3 (ren0 []))))
    (k : QGo C all rest { s with L := put s.L d r } K Φ) : QGo C all (o :: rest) s K Φ := by
  intro a w ρ F h
  simp only [Bool.and_eq_true] at hdn
  refine QGo.op_next hgd (x := x) (fun w' hm => quiet_call h hfxg (pc_nil _) hco hp hx hA hm) ?_
  rw [hd]
  exact k _ _ _ _ (h.put (by rw [← hn]; simpa using hdn.1) (valOf_mk hx) (all3_imp (fun u hu => fresh_mono (Nat.zero_le _) hu) hdn.2))

/-- The same under a guard. -/
theorem QGo.callG (hn : g.n = C.n) (hfxg : g.fix = C.fix) {all : Array Oper} {o : Oper} {rest : List Oper} {args : List V} {r : V} {f : FuncId} {A : List V} {d j : Nat} {u : Bool} {q : List (Nat × Bool)} {x : Value}
    (hgd : o.guard = some (j, u)) (hgp : gpath s.L all j u = some q) (hd : o.dst = some d) (hdn : (Nat.blt d g.n && !(q.any fun e => Nat.beq e.1 d) && r.all3 (fresh 0)) = true) (hco : callOf s.L q o = some (f, A))
    (hp : imp s.L q (Pure C.pg f args r [])) (hx : valOf r = some x) (hA : AEq A (args.map (V.map3 (ren0 []))))
    (k : QGo C all rest { s with L := put s.L d (.g q r) } K Φ) : QGo C all (o :: rest) s K Φ := by
  intro a w ρ F h
  simp only [Bool.and_eq_true, Bool.not_eq_true'] at hdn
  obtain ⟨⟨b1, b2⟩, b3⟩ := hdn
  have hgs := gpath_sound h hgp
  have hwant : Region.wanted o (yielded all a.tmps) = true ↔ pcA a.tmps q := by rw [← hgs]; simp [Region.wanted, hgd]
  have hf := all3_imp (fun u hu => fresh_mono (Nat.zero_le s.m) hu) b3
  by_cases hpc : pcA a.tmps q
  · refine QGo.op_guarded (x := x) (fun _ w' hm => quiet_call h hfxg hpc hco (imp_sound h hpc hp) hx hA hm) (fun hno => by rw [hwant.2 hpc] at hno; simp at hno) ?_
    rw [hd]
    exact k _ _ _ _ (h.putS (by rw [← hn]; simpa using b1) ⟨fun _ => valOf_mk hx, fun hno => (hno ((pcA_put b2).2 hpc)).elim⟩ hf)
  · refine QGo.op_guarded (x := undef) (fun hyes => (hpc (hwant.1 hyes)).elim) (fun _ => rfl) ?_
    rw [hd]
    exact k _ _ _ _ (h.putS (by rw [← hn]; simpa using b1) ⟨fun hp => (hpc ((pcA_put b2).1 hp)).elim, fun _ => rfl⟩ hf)
end

namespace Cx
variable {P : Pg} {g : Cfg} {C : Ctx} (x : Cx P g C) {s s' : St} {K K' : List Item} {Φ : Exit → St → Prop} {ob : List Prop}
include x

theorem toWp {c : Code} {Q : Exit → Act → World → Prop} {a : Act} {w : World} (h : wq C.rd C.P c Q a w) : c.wp C.P Q a w := by
  rw [x.rd] at h; exact wq_none.1 h
theorem ofWp {c : Code} {Q : Exit → Act → World → Prop} {a : Act} {w : World} (h : c.wp C.P Q a w) : wq C.rd C.P c Q a w := by
  rw [x.rd]; exact wq_none.2 h
/-- A statement that draws its order. -/
theorem quiet {id : Nat} {ops : Array Oper} (h : run g 1000 K s [] = .code ob (.region id ops true) K' s') (ho : AllP ob) (hm : P.P.follows .mixedOrders = true) (hB : Region.lexB .any ops = true)
    (k : QGo C ops ops.toList s' K' Φ) : Go C K s Φ := by
  refine st x.ty x.n x.fix h ⟨ho, ?_⟩
  rintro a w ⟨ρ, F, hs⟩
  have hd : Mod none w { w with drawn := w.drawn + 1 } := ⟨rfl, rfl, rfl, Nat.le_refl _, fun _ _ _ => rfl⟩
  refine x.ofWp ?_
  exact wp_region_quiet (C := Mod none w) (x.progP.symm ▸ hm) hB hd (k a w ρ F hs)
end Cx
namespace Cr
variable {P : Pg} {g : Cfg} {C : Ctx} (x : Cr P g C) {s s' : St} {K K' : List Item} {Φ : Exit → St → Prop} {ob : List Prop}
include x
theorem qdone {all : Array Oper} {l : List Oper} (h : qrun g all 1000 l s [] = .done ob s') (ho : AllP ob) (k : Go C K s' Φ) : QGo C all l s K Φ :=
  (qrun_holds (K := K) (Φ := Φ) x.ty x.n 1000 l s [] (by rw [h]; exact ⟨ho, k⟩)).2
theorem qcall {all : Array Oper} {l rest : List Oper} {o : Oper} {args A : List V} {r : V} {f d : Nat} {y : Value} (h : qrun g all 1000 l s [] = .op ob o rest s') (ho : AllP ob)
    (hco : callInfo g s' o = some (f, A, d)) (hp : Pure P f args r []) (hy : valOf r = some y) (hr : r.all3 (fresh 0) = true) (hA : AEq A (args.map (V.map3 (ren0 [])))) (k : QGo C all rest { s' with L := put s'.L d r } K Φ) : QGo C all l s K Φ := by
  suffices kk : QGo C all (o :: rest) s' K Φ from (qrun_holds (K := K) (Φ := Φ) x.ty x.n 1000 l s [] (by rw [h]; exact ⟨ho, kk⟩)).2
  unfold callInfo at hco
  split at hco
  · rename_i d' hg hd
    cases hb : Nat.blt d' g.n with
    | false => rw [hb] at hco; simp at hco
    | true =>
      rw [hb] at hco
      simp only [cond_true] at hco
      split at hco
      · rename_i f' A' hc
        simp only [Option.some.injEq, Prod.mk.injEq] at hco
        obtain ⟨rfl, rfl, rfl⟩ := hco
        exact QGo.call x.n x.fix (x.prog ▸ hp) hy hg hd (by simp only [Bool.and_eq_true]; exact ⟨hb, hr⟩) hc hA k
      · simp at hco
  · simp at hco
theorem qcallG {all : Array Oper} {l rest : List Oper} {o : Oper} {args A : List V} {r : V} {f d : Nat} {q : List (Nat × Bool)} {y : Value} (h : qrun g all 1000 l s [] = .op ob o rest s') (ho : AllP ob)
    (hco : callInfoG g s' all o = some (f, A, d, q)) (hp : imp s'.L q (Pure P f args r [])) (hy : valOf r = some y) (hr : r.all3 (fresh 0) = true) (hA : AEq A (args.map (V.map3 (ren0 [])))) (k : QGo C all rest { s' with L := put s'.L d (.g q r) } K Φ) : QGo C all l s K Φ := by
  suffices kk : QGo C all (o :: rest) s' K Φ from (qrun_holds (K := K) (Φ := Φ) x.ty x.n 1000 l s [] (by rw [h]; exact ⟨ho, kk⟩)).2
  unfold callInfoG at hco
  split at hco
  · rename_i j u d' hg hd
    split at hco
    · rename_i q' hq
      cases hb : (Nat.blt d' g.n && !(q'.any fun e => Nat.beq e.1 d')) with
      | false => rw [hb] at hco; simp at hco
      | true =>
        rw [hb] at hco
        simp only [cond_true] at hco
        split at hco
        · rename_i f' A' hc
          simp only [Option.some.injEq, Prod.mk.injEq] at hco
          obtain ⟨rfl, rfl, rfl, rfl⟩ := hco
          exact QGo.callG x.n x.fix hg hq hd (by simp only [Bool.and_eq_true] at hb ⊢; exact ⟨hb, hr⟩) hc (x.prog ▸ hp) hy hA k
        · simp at hco
    · simp at hco
  · simp at hco
end Cr
end Go.Sx

/-
  Sx, part 26: statements that draw their order and write: copies first (A), then what only reads (B), in any order; what is left (T) comes one by one.
-/
set_option linter.unusedVariables false
set_option linter.unusedSimpArgs false
namespace Go.Sx

def pickL (l : List Oper) : List Nat → List Oper
  | [] => []
  | i :: r => match l[i]? with
    | some o => o :: pickL l r
    | none => pickL l r

def isMove (ops : Array Oper) (i : Nat) : Bool :=
  match ops[i]? with
  | some o => match o.guard, o.op with
    | none, .move _ => true
    | none, .assign _ => true
    | _, _ => false
  | none => false

def memN (i : Nat) : List Nat → Bool
  | [] => false
  | j :: r => Nat.beq j i || memN i r
theorem memN_iff {i : Nat} : ∀ {l : List Nat}, memN i l = true ↔ i ∈ l
  | [] => by simp [memN]
  | j :: r => by
    simp only [memN, Bool.or_eq_true, memN_iff, List.mem_cons]
    constructor
    · rintro (h | h)
      · exact .inl (Nat.eq_of_beq_eq_true h).symm
      · exact .inr h
    · rintro (h | h)
      · exact .inl (by subst h; simp)
      · exact .inr h

section
variable (md : Region.Mode) (ops : Array Oper)
def stepB (T : List Nat) (listed : Array Bool) (i : Nat) : Bool := (Region.ready md ops listed).contains i && Region.free md ops listed i && !memN i T
def planA (T : List Nat) : List Nat → Array Bool → (Array Bool → Bool) → Bool
  | [], l, k => k l
  | i :: r, l, k => stepB md ops T l i && isMove ops i && planA T r (l.setIfInBounds i true) k
def planQ (T : List Nat) : List Nat → Array Bool → (Array Bool → Bool) → Bool
  | [], l, k => k l
  | i :: r, l, k => stepB md ops T l i && planQ T r (l.setIfInBounds i true) k
def seqL : List Nat → Array Bool → Bool
  | [], l => (Region.ready md ops l).isEmpty
  | i :: r, l => decide (Region.ready md ops l = [i]) && seqL r (l.setIfInBounds i true)
def sinkL (t : Nat) : List Nat → Bool
  | [] => true
  | i :: r => (Region.waitsFor md ops t i || r.any fun j => Region.waitsFor md ops j i) && sinkL t r
def chainL : List Nat → Bool
  | a :: b :: r => Region.waitsFor md ops b a && chainL (b :: r)
  | _ => true
def headOf : List Nat → Nat
  | t :: _ => t
  | [] => 0
def planB (A B T : List Nat) : Bool :=
  Region.noSelect ops && Nat.beq (A.length + B.length + T.length) ops.size && !T.isEmpty && T.all (fun t => Nat.blt t ops.size) && sinkL md ops (headOf T) B && chainL md ops T &&
  planA md ops T A (Array.replicate ops.size false) fun l => planQ md ops T B l fun l => seqL md ops T l
end

section
variable {P : Program} {ops : Array Oper} {md : Region.Mode} {Q : Exit → Act → World → Prop} {T : List Nat}

structure Inv (md : Region.Mode) (ops : Array Oper) (T : List Nat) (listed : Array Bool) : Prop where
  size : listed.size = ops.size
  closed : ∀ j oj, ops[j]? = some oj → listed.getD j false = true → ∀ e ∈ oj.after, Region.binds md e = true → listed.getD e.on false = true
  tail : ∀ t ∈ T, listed.getD t false = false

theorem Inv.set {i : Nat} {listed : Array Bool} (inv : Inv md ops T listed) (hi : i ∈ Region.ready md ops listed) (hin : i ∉ T) : Inv md ops T (listed.setIfInBounds i true) := by
  obtain ⟨_, oi, hoi, hall⟩ := mem_ready.1 hi
  refine ⟨by simp [inv.size], fun j oj hj hl e he hb => ?_, fun t ht => by rw [getD_set_ne false (by rintro rfl; exact hin ht)]; exact inv.tail t ht⟩
  by_cases hij : i = j
  · subst hij
    have : oj = oi := Option.some.inj (hj.symm.trans hoi)
    subst this
    exact getD_set_true (hall e he hb)
  · rw [getD_set_ne false hij] at hl
    exact getD_set_true (inv.closed j oj hj hl e he hb)

theorem ready_pred {t i : Nat} {listed : Array Bool} (ht : t ∈ Region.ready md ops listed) (hw : Region.waitsFor md ops t i = true) : listed.getD i false = true := by
  obtain ⟨_, ot, hot, hall⟩ := mem_ready.1 ht
  obtain ⟨o', ho', e, he, hb, hon⟩ := Region.waitsFor_spec hw
  obtain rfl : o' = ot := Option.some.inj (ho'.symm.trans hot)
  rw [← hon]
  exact hall e he hb
theorem listed_pred {t i : Nat} {listed : Array Bool} (inv : Inv md ops T listed) (ht : listed.getD t false = true) (hw : Region.waitsFor md ops t i = true) : listed.getD i false = true := by
  obtain ⟨o', ho', e, he, hb, hon⟩ := Region.waitsFor_spec hw
  rw [← hon]
  exact inv.closed t o' ho' ht e he hb

theorem sink_listed {t : Nat} {listed : Array Bool} (inv : Inv md ops T listed) (ht : t ∈ Region.ready md ops listed) : ∀ {B : List Nat}, sinkL md ops t B = true → ∀ i ∈ B, listed.getD i false = true
  | b :: r, h, i, hi => by
    simp only [sinkL, Bool.and_eq_true, Bool.or_eq_true, List.any_eq_true] at h
    have ih := sink_listed inv ht h.2
    rcases List.mem_cons.1 hi with rfl | hi
    · rcases h.1 with h1 | ⟨j, hj, hw⟩
      · exact ready_pred ht h1
      · exact listed_pred inv (ih j hj) hw
    · exact ih i hi
  | [], _, _, hi => by cases hi

theorem chain_not {listed : Array Bool} (inv : Inv md ops T listed) : ∀ {S : List Nat}, (∀ t ∈ S, t ∈ T) → chainL md ops S = true → ∀ t ∈ S, t ∈ Region.ready md ops listed → t = headOf S
  | [], _, _, t, ht, _ => by cases ht
  | [a], _, _, t, ht, _ => by simpa [headOf] using ht
  | a :: b :: r, hS, h, t, ht, hr => by
    simp only [chainL, Bool.and_eq_true] at h
    rcases List.mem_cons.1 ht with rfl | ht
    · rfl
    · have h1 := chain_not inv (fun t ht => hS t (List.mem_cons_of_mem _ ht)) h.2 t ht hr
      simp only [headOf] at h1
      subst h1
      have := ready_pred hr h.1
      rw [inv.tail a (hS a (by simp))] at this
      cases this

theorem tail_not {listed : Array Bool} {B : List Nat} (inv : Inv md ops T listed) (hs : sinkL md ops (headOf T) B = true) (hc : chainL md ops T = true) {i : Nat} (hi : i ∈ B) (hun : listed.getD i true = false) {j : Nat} (hj : j ∈ Region.ready md ops listed) : j ∉ T := by
  intro hjT
  have := chain_not inv (fun _ h => h) hc j hjT hj
  subst this
  have := sink_listed inv hj hs i hi
  rw [getD_both hun] at this
  cases this

variable {C : World → Prop}
/-- The reading phase: f operations more, none of T, come up. -/
def wpAnyB (P : Program) (md : Region.Mode) (ops : Array Oper) (C : World → Prop) (T : List Nat) (L : Array Bool → Act → Prop) : Nat → Array Bool → Act → Prop
  | 0, listed, a => L listed a
  | f + 1, listed, a =>
    Region.ready md ops listed ≠ [] ∧ ∀ i ∈ Region.ready md ops listed, i ∉ T ∧ qOp P ops C i (wpAnyB P md ops C T L f (listed.setIfInBounds i true)) a

theorem wpAny_of_B {g : Nat} {L : Array Bool → Act → Prop} (hL : ∀ listed a w, C w → L listed a → wpAny P md ops Q g listed a w) :
    ∀ (f : Nat) (listed : Array Bool) (a : Act) (w : World), C w → wpAnyB P md ops C T L f listed a → wpAny P md ops Q (f + g) listed a w
  | 0, listed, a, w, hw, h => by rw [Nat.zero_add]; exact hL _ _ _ hw h
  | f + 1, listed, a, w, hw, h => by
    rw [show f + 1 + g = (f + g) + 1 by omega]
    exact ⟨fun h0 => absurd h0 h.1, fun i hi => wpOp_of_qOp hw (fun a' w' hw' h' => wpAny_of_B hL f _ a' w' hw' h') (h.2 i hi).2⟩

theorem wpAnyB_first {B : List Nat} {i : Nat} {oi : Oper} {v : Value} {L : Array Bool → Act → Prop} (hi : ops[i]? = some oi) (hsel : ∀ (j : Nat) (o : Oper) cs b, ops[j]? = some o → o.op ≠ .select cs b)
    (hs : sinkL md ops (headOf T) B = true) (hc : chainL md ops T = true) (hin : i ∈ B)
    (hdone : ∀ listed a, L listed a → ∀ j ∈ Region.ready md ops listed, j ∈ T) :
    ∀ (f : Nat) (listed : Array Bool) (a : Act), Inv md ops T listed →
      (∀ j oj, ops[j]? = some oj → j ≠ i → listed.getD j true = false → (∀ e ∈ oj.after, Region.binds md e = true → e.on ≠ i) → oi.apart ops oj = true) →
      i ∈ Region.ready md ops listed → YieldsIn P ops C oi v a →
      wpAnyB P md ops C T L f (listed.setIfInBounds i true) (a.put oi.dst v) → wpAnyB P md ops C T L (f + 1) listed a := by
  intro f
  induction f with
  | zero =>
    intro listed a inv _ hr hy H
    have hun := (mem_ready.1 hr).1
    refine ⟨fun h => (by rw [h] at hr; cases hr), fun j hj => ?_⟩
    have hjn := tail_not inv hs hc hin hun hj
    refine ⟨hjn, ?_⟩
    by_cases hji : j = i
    · subst hji; exact hy.qOp hi H
    · exact absurd (hdone _ _ H j (ready_mono hj hji)) hjn
  | succ f ih =>
    intro listed a inv hfree hr hy H
    have hun := (mem_ready.1 hr).1
    refine ⟨fun h => (by rw [h] at hr; cases hr), fun j hj => ?_⟩
    have hjn := tail_not inv hs hc hin hun hj
    refine ⟨hjn, ?_⟩
    by_cases hji : j = i
    · subst hji; exact hy.qOp hi H
    · have h1 := (H.2 j (ready_mono hj hji)).2
      obtain ⟨hjun, oj, hoj, hall⟩ := mem_ready.1 hj
      have hnot : ∀ e ∈ oj.after, Region.binds md e = true → e.on ≠ i := fun e he hb heq => by
        have h1 := hall e he hb
        rw [heq, getD_both hun] at h1
        cases h1
      have h2 := qOp_put hoj (hfree j oj hoj hji hjun hnot) (fun cs b => hsel i oi cs b hi) (fun cs b => hsel j oj cs b hoj) hy h1
      have hfree' : ∀ k ok, ops[k]? = some ok → k ≠ i → (listed.setIfInBounds j true).getD k true = false →
          (∀ e ∈ ok.after, Region.binds md e = true → e.on ≠ i) → oi.apart ops ok = true := fun k ok hk hki hun hno => by
        refine hfree k ok hk hki ?_ hno
        by_cases hjk : j = k
        · subst hjk; exact hjun
        · rw [getD_set_ne true hjk] at hun; exact hun
      refine qOp_mono (fun a' h3 => ih (listed.setIfInBounds j true) a' (inv.set hj hjn) hfree' (ready_mono hr (Ne.symm hji)) h3.1 ?_) h2
      rw [Array.setIfInBounds_comm _ _ hji]
      exact h3.2

theorem pick_cons {l : List Oper} {i : Nat} {o : Oper} {r : List Nat} (h : l[i]? = some o) : pickL l (i :: r) = o :: pickL l r := by simp [pickL, h]

theorem stepB_some {listed : Array Bool} {i : Nat} (h : stepB md ops T listed i = true) : ∃ o, ops[i]? = some o ∧ i ∈ Region.ready md ops listed ∧ Region.free md ops listed i = true ∧ i ∉ T := by
  simp only [stepB, Bool.and_eq_true, Bool.not_eq_true'] at h
  have hr : i ∈ Region.ready md ops listed := by simpa using h.1.1
  obtain ⟨_, o, ho, _⟩ := mem_ready.1 hr
  exact ⟨o, ho, hr, h.1.2, fun hm => by rw [memN_iff.2 hm] at h; exact absurd h.2 (by simp)⟩

theorem planQ_sound (hs : Region.noSelect ops = true) {B0 : List Nat} (hsk : sinkL md ops (headOf T) B0 = true) (hc : chainL md ops T = true) {Lq : Act → Prop} :
    ∀ (B : List Nat) (listed : Array Bool) (a : Act), (∀ i ∈ B, i ∈ B0) → Inv md ops T listed → planQ md ops T B listed (fun l => seqL md ops T l) = true →
      wpQuiet P ops C Lq (pickL ops.toList B) a → wpAnyB P md ops C T (fun l a' => seqL md ops T l = true ∧ Lq a') B.length listed a
  | [], listed, a, _, inv, hp, h => ⟨hp, h⟩
  | i :: r, listed, a, hB, inv, hp, h => by
    simp only [planQ, Bool.and_eq_true] at hp
    obtain ⟨o, ho, hr, hf, hiT⟩ := stepB_some hp.1
    rw [pick_cons (by simpa using ho)] at h
    have hst : qOp P ops C i (wpQuiet P ops C Lq (pickL ops.toList r)) a := by unfold qOp; simp only [ho]; exact h
    obtain ⟨v, hy, hK⟩ := yieldsIn_of_qOp ho hst
    refine wpAnyB_first ho (Region.noSelect_spec hs) hsk hc (hB i (by simp)) ?_ r.length listed a inv (Region.free_spec ho hf) hr hy
      (planQ_sound hs hsk hc r _ _ (fun j hj => hB j (List.mem_cons_of_mem _ hj)) (inv.set hr hiT) hp.2 hK)
    rintro l a' ⟨hl, _⟩ j hj
    cases hT : T with
    | nil => rw [hT] at hl; simp only [seqL, List.isEmpty_iff] at hl; rw [hl] at hj; cases hj
    | cons t T' =>
      rw [hT] at hl
      simp only [seqL, Bool.and_eq_true, decide_eq_true_eq] at hl
      rw [hl.1] at hj
      simpa using .inl (List.mem_singleton.1 hj)

theorem seqL_sound : ∀ (T : List Nat) (listed : Array Bool) (a : Act) (w : World), (∀ t ∈ T, t < ops.size) → seqL md ops T listed = true → wpList P ops Q (pickL ops.toList T) a w → wpAny P md ops Q T.length listed a w
  | [], listed, a, w, _, hB, h => ⟨by simpa [seqL] using hB, h⟩
  | i :: r, listed, a, w, hlt, hB, h => by
    simp only [seqL, Bool.and_eq_true, decide_eq_true_eq] at hB
    have hi := hlt i (by simp)
    have ho : ops[i]? = some ops[i] := by simp [hi]
    rw [pick_cons (o := ops[i]) (by simp [hi])] at h
    refine ⟨fun h1 => (by rw [hB.1] at h1; cases h1), fun k hk => ?_⟩
    rw [hB.1] at hk
    obtain rfl := List.mem_singleton.1 hk
    have hw : wpOp P ops Q k (wpList P ops Q (pickL ops.toList r)) a w := by unfold wpOp; simp only [ho]; exact h
    exact wpOp_mono (fun a' w' h' => seqL_sound r _ a' w' (fun t ht => hlt t (List.mem_cons_of_mem _ ht)) hB.2 h') hw

theorem planA_sound (hs : Region.noSelect ops = true) (hQ : ∀ c a w, ¬ Q (.panic c) a w) {Lq : List Oper → Act → Prop} {f : Nat} {k : Array Bool → Bool} {w : World} (hw : C w)
    (hk : ∀ listed a, Inv md ops T listed → k listed = true → Lq [] a → wpAny P md ops Q f listed a w)
    (hcons : ∀ o l a, Lq (o :: l) a → if Region.wanted o (yielded ops a.tmps) then o.quiet P a C (Lq l) else Lq l (a.put o.dst undef)) :
    ∀ (A : List Nat) (listed : Array Bool) (a : Act), Inv md ops T listed → planA md ops T A listed k = true → Lq (pickL ops.toList A) a → wpAny P md ops Q (A.length + f) listed a w
  | [], listed, a, inv, hp, h => by rw [List.length_nil, Nat.zero_add]; exact hk _ _ inv hp h
  | i :: r, listed, a, inv, hp, h => by
    simp only [planA, Bool.and_eq_true] at hp
    obtain ⟨⟨hp1, hm⟩, hp2⟩ := hp
    obtain ⟨o, ho, hr, hf, hiT⟩ := stepB_some hp1
    rw [pick_cons (by simpa using ho)] at h
    rw [show (i :: r).length + f = (r.length + f) + 1 by simp; omega]
    have hc := hcons _ _ _ h
    simp only [isMove, ho] at hm
    have hgo : ∀ x : Operand, o.guard = none → (∀ w', (execOp a.eval o).run P w' = .ok (.value (a.eval x)) w') → wpAny P md ops Q (r.length + f + 1) listed a w := fun x hg hv => by
      have hwt : Region.wanted o (yielded ops a.tmps) = true := by simp [Region.wanted, hg]
      rw [if_pos hwt] at hc
      obtain ⟨v, h1, h2⟩ := hc
      have h3 := h1 w hw
      unfold Oper.quietAt at h3
      rw [hv] at h3
      obtain ⟨_, rfl⟩ := h3
      exact wpAny_take ho hs hf (by simpa using hr) (fun c a w hq => absurd hq (hQ c _ w)) (.inl ⟨hwt, hv⟩) (planA_sound hs hQ hw hk hcons r _ _ (inv.set hr hiT) hp2 h2)
    split at hm
    · rename_i x hg hop
      exact hgo x hg fun w' => by unfold execOp; rw [hop]; rfl
    · rename_i x hg hop
      exact hgo x hg fun w' => by unfold execOp; rw [hop]; rfl
    · cases hm

/-- **A statement that draws its order and writes.** -/
theorem wpAny_plan {a : Act} {w : World} {A B T : List Nat} (hp : planB .any ops A B T = true) (hQ : ∀ c a w, ¬ Q (.panic c) a w) (hC : C { w with drawn := w.drawn + 1 })
    (h : wpQuiet P ops C (fun a' => ∀ w', C w' → wpList P ops Q (pickL ops.toList T) a' w') (pickL ops.toList A ++ pickL ops.toList B) a) : wpAny P .any ops Q ops.size (Array.replicate ops.size false) a { w with drawn := w.drawn + 1 } := by
  simp only [planB, Bool.and_eq_true] at hp
  obtain ⟨⟨⟨⟨⟨⟨hs, hsz⟩, hT⟩, hTl⟩, hsk⟩, hch⟩, hpl⟩ := hp
  have inv0 : Inv .any ops T (Array.replicate ops.size false) := ⟨by simp, fun j oj _ hl => (by rw [getD_replicate_false] at hl; cases hl), fun t _ => getD_replicate_false _ _⟩
  have hsz := Nat.eq_of_beq_eq_true hsz
  have e : A.length + (B.length + T.length) = ops.size := by omega
  have key : wpAny P .any ops Q (A.length + (B.length + T.length)) (Array.replicate ops.size false) a { w with drawn := w.drawn + 1 } := ?_
  · rw [e] at key; exact key
  refine planA_sound (C := C) (T := T) (Lq := fun l a => wpQuiet P ops C (fun a' => ∀ w', C w' → wpList P ops Q (pickL ops.toList T) a' w') (l ++ pickL ops.toList B) a) hs hQ hC
    (fun listed a inv hk hl => ?_) (fun o l a hl => hl) A _ a inv0 hpl h
  have hB := planQ_sound (md := .any) hs hsk hch B listed a (fun i hi => hi) inv hk (by simpa using hl)
  refine wpAny_of_B (g := T.length) (fun l a' w' hw' hL => seqL_sound T l a' w' (fun t ht => ?_) hL.1 (hL.2 w' hw')) _ _ _ _ hC hB
  have := List.all_eq_true.1 hTl t ht
  simpa using this
theorem wp_region_plan {id : Nat} {a : Act} {w : World} {A B T : List Nat} (hm : P.follows .mixedOrders = true) (hp : planB .any ops A B T = true) (hQ : ∀ c a w, ¬ Q (.panic c) a w) (hC : C { w with drawn := w.drawn + 1 })
    (h : wpQuiet P ops C (fun a' => ∀ w', C w' → wpList P ops Q (pickL ops.toList T) a' w') (pickL ops.toList A ++ pickL ops.toList B) a) : (Code.region id ops true).wp P Q a w :=
  wp_region_any hm (wpAny_plan hp hQ hC h)
end

theorem den_panic {C : Ctx} {Q : Exit → Act → World → Prop} (hQ : ∀ c a w, ¬ Q (.panic c) a w) : ∀ (K : List Item) (c : _) (a : Act) (w : World), ¬ den C Q K (.panic c) a w
  | [], c, a, w, h => hQ c a w h
  | .code _ :: K, c, a, w, h => den_panic hQ K c a w h
  | .ops _ _ :: K, c, a, w, h => den_panic hQ K c a w h
  | .blk _ :: K, c, a, w, h => den_panic hQ K c a w h
  | .back _ :: K, c, a, w, h => den_panic hQ K c a w h

def NoPanic (Φ : Exit → St → Prop) : Prop := ∀ c s, ¬ Φ (.panic c) s
theorem Ret.noPanic {g : Cfg} {rs : List ResultVar} {ids : List Nat} {r : V} {H' : List Ch} : NoPanic (Ret g rs ids r H') := fun c s h => by
  rcases h.1 with h | h <;> cases h

theorem app_nil_nil {α : Type} (l : List α) : app2 ([] : List α) l = l := rfl

def app3 {α : Type} : List α → List α → List α
  | [], l => l
  | a :: r, l => a :: app3 r l
theorem app3_eq {α : Type} (a b : List α) : app3 a b = a ++ b := by induction a with
  | nil => rfl
  | cons x a ih => simp [app3, ih]

theorem wpQuiet_mono {P : Program} {ops : Array Oper} {C : World → Prop} {Q Q' : Act → Prop} (h : ∀ a, Q a → Q' a) : ∀ {l : List Oper} {a : Act}, wpQuiet P ops C Q l a → wpQuiet P ops C Q' l a
  | [], a, hh => h a hh
  | o :: rest, a, hh => by
    unfold wpQuiet at *
    split
    · rename_i hw; simp only [hw, if_true] at hh; exact Oper.quiet_mono (fun a hh => wpQuiet_mono h hh) hh
    · rename_i hw; simp only [hw] at hh; exact wpQuiet_mono h hh

namespace Cx
variable {P : Pg} {g : Cfg} {C : Ctx} (x : Cx P g C) {s s' : St} {K K' : List Item} {Φ : Exit → St → Prop} {ob : List Prop}
include x
theorem plan (A B T : List Nat) {id : Nat} {ops : Array Oper} (h : run g 1000 K s [] = .code ob (.region id ops true) K' s') (ho : AllP ob) (hm : P.P.follows .mixedOrders = true) (hB : planB .any ops A B T = true) (hΦ : NoPanic Φ)
    (k : QGo C ops (pickL ops.toList (app3 A B)) s' (.ops ops (pickL ops.toList T) :: K') Φ) : Go C K s Φ := by
  refine st x.ty x.n x.fix h ⟨ho, ?_⟩
  rintro a w ⟨ρ, F, hs⟩
  have hd : Mod none w { w with drawn := w.drawn + 1 } := ⟨rfl, rfl, rfl, Nat.le_refl _, fun _ _ _ => rfl⟩
  have hpk : pickL ops.toList (app3 A B) = pickL ops.toList A ++ pickL ops.toList B := by
    rw [app3_eq]
    clear k hB
    induction A with
    | nil => rfl
    | cons i r ih =>
      simp only [List.cons_append, pickL]
      split <;> simp [ih]
  rw [hpk] at k
  refine x.ofWp ?_
  exact wp_region_plan (C := Mod none w) (x.progP.symm ▸ hm) hB (den_panic (fun c a w ⟨s, _, hh⟩ => hΦ c s hh) K') hd (wpQuiet_mono (fun a h w' hw' => (h w' hw').1) (k a w ρ F hs))
end Cx
end Go.Sx

/-
  Sx, part 27: plain facts for elements of one cell.
-/
set_option linter.unusedVariables false
set_option linter.unusedSimpArgs false
namespace Go.Sx

theorem zip1 (c : Prop) [Decidable c] (a b : D) : zipIte c [a] [b] = [iteD c a b] := by
  unfold zipIte
  congr 1
  unfold zipIte
  simp
theorem iteD_int (c : Prop) [Decidable c] (k : IntKind) (a b : Int) : iteD c (.int k a) (.int k b) = .int k (if c then a else b) := by
  show (bif kbeq k k then D.int k (if c then a else b) else if c then D.int k a else D.int k b) = _
  rw [show kbeq k k = true by simp [kbeq]]
  rfl
theorem put2_int (k : IntKind) (b : Nat → Int) (i : Nat) (v : Int) : put2 (fun j => [D.int k (b j)]) i 0 [.int k v] = fun j => [D.int k (if j = i then v else b j)] := by
  funext j
  show zipIte (j = i) [D.int k v] [D.int k (b j)] = _
  rw [zip1, iteD_int]
theorem put2_bool (b : Nat → Bool) (i : Nat) (v : Bool) : put2 (fun j => [D.bool (b j)]) i 0 [.bool v] = fun j => [D.bool (if j = i then v else b j)] := by
  funext j
  show zipIte (j = i) [D.bool v] [D.bool (b j)] = _
  rw [zip1]
  rfl
theorem app_int (k : IntKind) (n : Nat) (b c : Nat → Int) : app n (fun j => [D.int k (b j)]) (fun j => [D.int k (c j)]) = fun j => [D.int k (if j < n then b j else c (j - n))] := by
  funext j
  show zipIte (j < n) [D.int k (b j)] [D.int k (c (j - n))] = _
  rw [zip1, iteD_int]
/-- What one cell of a list holds. -/
theorem app_list (k : IntKind) (l : List Int) (v : Int) (j : Nat) (hj : j < l.length + 1) : app l.length (fun j => [D.int k (l.getD j 0)]) (fun _ => [D.int k v]) j = [D.int k ((l ++ [v]).getD j 0)] := by
  show zipIte (j < l.length) [D.int k (l.getD j 0)] [D.int k v] = _
  rw [zip1, iteD_int]
  congr 2
  by_cases h : j < l.length
  · rw [if_pos h]; simp [List.getD_eq_getElem?_getD, List.getElem?_append_left h]
  · rw [if_neg h]
    have : j = l.length := by omega
    subst this
    simp [List.getD_eq_getElem?_getD]

/-- Two ways that come together again. -/
theorem Cr.ite {P : Pg} {g : Cfg} {C : Ctx} (x : Cr P g C) {s s' : St} {K K' : List Item} {Φ : Exit → St → Prop} {ob : List Prop} {α : Type} (I : α → St) {b : Bool} {c1 c2 : Code} (h : run g 1000 K s [] = .cond ob b c1 c2 K' s') (ho : AllP ob)
    (h1 : b = true → Go C (.code c1 :: .back (fun s' => ∃ y, LE g.fix s' (I y)) :: K') s' Φ) (h2 : b = false → Go C (.code c2 :: .back (fun s' => ∃ y, LE g.fix s' (I y)) :: K') s' Φ) (h3 : ∀ y, Go C K' (I y) Φ) : Go C K s Φ :=
  x.cond h ho (fun hb => x.cut I (h1 hb) h3) (fun hb => x.cut I (h2 hb) h3)

/-- A slice that is nil is an owned one of no elements. -/
theorem Go.own {C : Ctx} {s : St} {K : List Item} {Φ : Exit → St → Prop} (t : Nat) (e : TypeId) (sz : Nat) (f : Nat → List D) (h : get s.L t = some .nils) (k : Go C K (newCh s t (.own s.m) (.vec e sz 0 f)) Φ) : Go C K s Φ := by
  rintro a w ⟨ρ, F, hs⟩
  obtain ⟨x, hx, hr⟩ := hs.slot t _ (get_mem h)
  obtain rfl : x = .slice none 0 0 := hr
  have hlt : t < a.tmps.size := (Array.getElem?_eq_some_iff.1 hx).1
  have hput : a.put (some t) (.slice none 0 0) = a := by
    cases a with
    | mk tmps defers =>
      simp only [Act.put, Act.mk.injEq, and_true]
      apply Array.ext
      · simp
      · intro i h1 h2
        by_cases hi : t = i
        · subst hi
          have := (Array.getElem?_eq_some_iff.1 hx).2
          simp [this]
        · rw [Array.getElem_setIfInBounds_ne _ hi]
  have := hs.row (d := t) (x := .slice none 0 0) (e := e) (sz := sz) (n := 0) (f := f) (xs := []) (w' := w) (by rw [← hs.size]; exact hlt) ⟨rfl, rfl, rfl, Nat.le_refl _, fun _ _ _ => rfl⟩ (fun b hb => by simp [blk] at hb) ⟨_, _, _, rfl⟩ ⟨by simp, .inl ⟨rfl, rfl⟩⟩ (fun i hi => absurd hi (Nat.not_lt_zero _))
  rw [hput] at this
  exact k a w this

/-- Up to a loop, to turn the state ahead of it. -/
theorem Cr.toLoop {P : Pg} {g : Cfg} {C : Ctx} (x : Cr P g C) {s s' : St} {K K' : List Item} {Φ : Exit → St → Prop} {ob : List Prop} {c : Code} (h : run g 1000 K s [] = .loop ob c K' s') (ho : AllP ob)
    (k : Go C (.code (.loop c) :: K') s' Φ) : Go C K s Φ :=
  st x.ty x.n x.fix h ⟨ho, k⟩

/-! ### byte strings as lists -/
def ba (l : List UInt8) : ByteArray := ⟨l.toArray⟩
theorem ba_app (a b : List UInt8) : ba a ++ ba b = ba (a ++ b) := by
  apply ByteArray.ext
  simp [ba, ByteArray.data_append]
theorem ba_eq (s : ByteArray) : s = ba s.data.toList := by cases s; rfl
theorem ba_size (l : List UInt8) : (ba l).size = l.length := by simp [ba, ByteArray.size]
theorem bytesOf_ba (n : Nat) (b : Nat → Int) : bytesOf n (fun j => [D.int .u8 (b j)]) = ba ((List.range n).map fun i => UInt8.ofNat (b i).toNat) := rfl
end Go.Sx

/-
  Sx, part 28: contracts that the library's shelf gives; scopes without a jump.
-/
set_option linter.unusedVariables false
set_option linter.unusedSimpArgs false
namespace Go.Sx

theorem callable_of {P : Program} {f : FuncId} {fn : Func} (h : P.funcs[f]? = some fn) (hb : fn.body.isSome = true) (hn : (fn.name == "runtime.NumGoroutine") = false) : Callable P f := ⟨fn, h, hb, hn⟩

def vals0 : List V → Option (List Value)
  | [] => some []
  | v :: r => match valOf v, vals0 r with
    | some x, some xs => some (x :: xs)
    | _, _ => none

theorem vals0_sound {ρ : Nat → Value} {F : Nat → Prop} {w : World} : ∀ {us : List V} {xs ys : List Value}, vals0 us = some xs → All2 (R3 ρ F w) us ys → ys = xs
  | [], xs, ys, h, hr => by
    cases ys with
    | nil => simpa [vals0] using h
    | cons => exact hr.elim
  | u :: us, xs, ys, h, hr => by
    cases ys with
    | nil => exact hr.elim
    | cons y ys =>
      simp only [vals0] at h
      split at h
      · rename_i x0 xs0 e1 e2
        simp only [Option.some.injEq] at h
        subst h
        rw [valOf_sound e1 hr.1, vals0_sound e2 hr.2]
      · simp at h

/-- A contract of the shelf: plain arguments, a plain answer, at most new blocks. -/
theorem Pure.ofLib {P : Pg} {f : FuncId} {args : List V} {vals : List Value} {vs : Array Value} {r : V} {v : Value} (hc : Callable P.P f) (hfr : (freshAll args [] 0 && freshAll [r] [] 0) = true) (ha : vals0 args = some vals) (hvs : vs = vals.toArray) (hr : valOf r = some v)
    (h : ∀ (w : World) (F : Nat → Prop), EnvOK P.env F w → Calls P.P f vs w fun e w' => e = .returned v ∧ Go.RowKit.Below w.heap.size w w') : Pure P f args r [] := by
  subst hvs
  simp only [Bool.and_eq_true] at hfr
  refine ⟨hc, hfr.1, hfr.2, Nat.le_refl _, Nat.le_refl _, fun w F ρ ys hF hE hH hargs => ?_⟩
  obtain rfl := vals0_sound ha hargs
  refine (h w F hE).mono ?_
  rintro e w' ⟨rfl, hb⟩
  obtain ⟨b1, b2, b3, b4, b5⟩ := hb
  refine ⟨v, ρ, F, rfl, ⟨b1, b2, b3, b4, fun k hk _ => b5 k hk⟩, fun _ _ => rfl, fun _ hk => hk, fun k hk => Nat.lt_of_lt_of_le (hF k hk) b4, fun _ hk => .inl hk, valOf_mk hr, ⟨fun i c hi => by simp at hi, fun i j b hi => absurd hi (Nat.not_lt_zero _), fun i b hi => absurd hi (Nat.not_lt_zero _)⟩, fun i b hi => absurd hi (Nat.not_lt_zero _)⟩

def NoGoto (Φ : Exit → St → Prop) : Prop := ∀ l s, ¬ Φ (.goto l) s
theorem Ret.noGoto {g : Cfg} {rs : List ResultVar} {ids : List Nat} {r : V} {H' : List Ch} : NoGoto (Ret g rs ids r H') := fun c s h => by
  rcases h.1 with h | h <;> cases h
theorem den_noGoto {C : Ctx} {Q : Exit → Act → World → Prop} (hQ : ∀ l a w, ¬ Q (.goto l) a w) : ∀ (K : List Item) (l : Nat) (a : Act) (w : World), ¬ den C Q K (.goto l) a w
  | [], c, a, w, h => hQ c a w h
  | .code _ :: K, c, a, w, h => den_noGoto hQ K c a w h
  | .ops _ _ :: K, c, a, w, h => den_noGoto hQ K c a w h
  | .blk _ :: K, c, a, w, h => den_noGoto hQ K c a w h
  | .back _ :: K, c, a, w, h => den_noGoto hQ K c a w h

/-- A scope through which the run goes without a jump. -/
theorem Cx.scope {P : Pg} {g : Cfg} {C : Ctx} (x : Cx P g C) {s s' : St} {K K' : List Item} {Φ : Exit → St → Prop} {ob : List Prop} {c : Code} (h : run g 1000 K s [] = .code ob (.scope c) K' s') (ho : AllP ob) (hΦ : NoGoto Φ)
    (k : Go C (.code c :: K') s' Φ) : Go C K s Φ := by
  refine st x.ty x.n x.fix h ⟨ho, ?_⟩
  intro a w hs
  rw [den_code]
  refine x.ofWp (wp_scope_straight (wp_mono (x.toWp (k a w hs)) ?_))
  intro e a w hq
  cases e with
  | goto l => exact absurd hq (den_noGoto (fun l a w ⟨s, _, hh⟩ => hΦ l s hh) K' l a w)
  | _ => exact hq
end Go.Sx

/-
  Sx, part 29: from what a statement's frame reads of an argument to the engine's data; data that are alike.
-/
set_option linter.unusedVariables false
set_option linter.unusedSimpArgs false
namespace Go.Sx

/-- What the cells of a type are. -/
inductive DTy where
  | bool
  | int (k : IntKind)
  | str
  | sl (b : Nat) (e : List DTy)

/-- Data of that kind. -/
inductive Conf1 : DTy → D → Prop
  | bool (b : Bool) : Conf1 .bool (.bool b)
  | int (k : IntKind) (n : Int) (h : (Lit.int k n).wf = true) : Conf1 (.int k) (.int k n)
  | str (s : ByteArray) (h : s.size ≤ maxLen) (hz : s.size ≤ reachBytes) : Conf1 .str (.str s)
  | sl (b : Nat) (e : List DTy) (n : Nat) (f : Nat → List D) (hn : n ≤ maxLen) (hz : n * b ≤ reachBytes) (hl : ∀ i, i < n → (f i).length = e.length)
      (h : ∀ (i j : Nat) (t : DTy) (d : D), i < n → e[j]? = some t → (f i)[j]? = some d → Conf1 t d) : Conf1 (.sl b e) (.sl e.length n f)
def Conf (τ : List DTy) (ds : List D) : Prop := ds.length = τ.length ∧ ∀ (j : Nat) (t : DTy) (d : D), τ[j]? = some t → ds[j]? = some d → Conf1 t d

/-- The cells of a type, read off the program. -/
def flatFs (go : TypeId → Option (List DTy)) (sz : TypeId → Nat) : Nat → List (Nat × TypeId) → Option (List DTy)
  | _, [] => some []
  | o, (off, ty) :: r => match go ty, flatFs go sz (o + sz ty) r with
    | some a, some b => bif Nat.beq off o && Nat.beq a.length (sz ty) then some (a ++ b) else none
    | _, _ => none
def flatTy (P : Program) : Nat → TypeId → Option (List DTy)
  | 0, _ => none
  | k + 1, t => match P.underlying t with
    | some .bool => some [.bool]
    | some (.int kd) => some [.int kd]
    | some .string => some [.str]
    | some (.slice e) => match flatTy P k e with
      | some τ => bif Nat.beq τ.length (P.cellsOf e) && Nat.ble 1 τ.length then some [.sl (P.bytesOf e) τ] else none
      | none => none
    | some (.struct fs) => match flatFs (flatTy P k) P.cellsOf 0 (fs.toList.map fun f => (f.offset, f.type)) with
      | some τ => bif Nat.beq τ.length (P.cellsOf t) then some τ else none
      | none => none
    | _ => none

section
variable {P : Program} {H : Type} {enc : TypeId × Value → H} {w : World} {spare : Nat → Bool} {held : Bool}
abbrev Old (w : World) : Nat → Prop := fun k => k < w.heap.size

theorem cells_get {a : Addr} {n : Nat} {cs : List Value} (h : w.cells? 0 a n = some cs) : cs.length = n ∧ ∀ j, j < n → w.cell? (a.add j) = cs[j]? := by
  unfold World.cells? at h
  rw [if_pos (Nat.zero_le _)] at h
  exact ⟨by simpa using mapM_some_length h, fun j hj => mapM_some_get h j j (by simp [hj])⟩

theorem cell_old {a : Addr} {v : Value} (h : w.cell? a = some v) : Old w a.block ∧ a.spot = none := by
  unfold World.cell? at h
  split at h
  · rename_i c _ _ hh
    refine ⟨(Array.getElem?_eq_some_iff.1 hh).1, ?_⟩
    cases hs : a.spot with
    | none => rfl
    | some _ => simp [hs] at h
  · simp at h

theorem all2_of_get {α β : Type} {R : α → β → Prop} : ∀ {as : List α} {bs : List β}, as.length = bs.length → (∀ (j : Nat) a b, as[j]? = some a → bs[j]? = some b → R a b) → All2 R as bs
  | [], [], _, _ => trivial
  | a :: as, b :: bs, hl, h => ⟨h 0 a b rfl rfl, all2_of_get (by simpa using hl) fun j x y hx hy => h (j + 1) x y (by simpa using hx) (by simpa using hy)⟩
  | [], _ :: _, hl, _ => by simp at hl
  | _ :: _, [], hl, _ => by simp at hl

def Opens (P : Program) (w : World) (t : TypeId) (τ : List DTy) (cs : List Value) : Prop := ∃ ds, Conf τ ds ∧ All2 (RD (Old w) w) ds cs

theorem conf_app {τ σ : List DTy} {as bs : List D} (h1 : Conf τ as) (h2 : Conf σ bs) : Conf (τ ++ σ) (as ++ bs) := by
  refine ⟨by simp [h1.1, h2.1], fun j t d ht hd => ?_⟩
  by_cases hj : j < τ.length
  · rw [List.getElem?_append_left hj] at ht
    rw [List.getElem?_append_left (by rw [h1.1]; exact hj)] at hd
    exact h1.2 j t d ht hd
  · rw [List.getElem?_append_right (by omega)] at ht
    rw [List.getElem?_append_right (by rw [h1.1]; omega), h1.1] at hd
    exact h2.2 _ t d ht hd

theorem fs_open (go : TypeId → Option (List DTy)) : ∀ (l : List (Nat × TypeId)) (o : Nat) (τ : List DTy) (cs : List Value), flatFs go P.cellsOf o l = some τ → o + τ.length = cs.length →
    (∀ f ∈ l, ∀ σ, go f.2 = some σ → Opens P w f.2 σ ((cs.drop f.1).take (P.cellsOf f.2))) → ∃ ds, Conf τ ds ∧ All2 (RD (Old w) w) ds (cs.drop o)
  | [], o, τ, cs, h, hl, _ => by
    simp only [flatFs, Option.some.injEq] at h
    subst h
    refine ⟨[], ⟨rfl, fun j t d ht => by simp at ht⟩, ?_⟩
    rw [List.drop_eq_nil_of_le (by simp at hl; omega)]
    trivial
  | (off, ty) :: r, o, τ, cs, h, hl, hop => by
    simp only [flatFs] at h
    split at h
    · rename_i a b h1 h2
      cases hb : (Nat.beq off o && Nat.beq a.length (P.cellsOf ty)) with
      | false => rw [hb] at h; simp at h
      | true =>
        rw [hb] at h
        simp only [cond_true, Option.some.injEq] at h
        subst h
        simp only [Bool.and_eq_true] at hb
        have e1 := Nat.eq_of_beq_eq_true hb.1
        have e2 := Nat.eq_of_beq_eq_true hb.2
        subst e1
        simp only [List.length_append] at hl
        obtain ⟨as, c1, r1⟩ := hop (off, ty) (by simp) a h1
        obtain ⟨bs, c2, r2⟩ := fs_open go r (off + P.cellsOf ty) b cs h2 (by omega) fun f hf => hop f (List.mem_cons_of_mem _ hf)
        refine ⟨as ++ bs, conf_app c1 c2, ?_⟩
        have := r1.app r2
        simp only at this
        rwa [show (cs.drop off).take (P.cellsOf ty) ++ cs.drop (off + P.cellsOf ty) = cs.drop off by rw [← List.drop_drop, List.take_append_drop]] at this
    · simp at h

theorem weightsAll_mem {P : Program} {e : TypeId} : ∀ {l : List (DataW H)} {d : DataW H}, d ∈ l → ∀ n ∈ d.weights P e, n ∈ DataW.weightsAll P e l
  | a :: l, d, hd, n, hn => by
    simp only [DataW.weightsAll, List.mem_append]
    rcases List.mem_cons.1 hd with rfl | hd
    · exact .inl hn
    · exact .inr (weightsAll_mem hd n hn)
  | [], _, hd, _, _ => by cases hd

theorem trod_opens : ∀ (k : Nat) (t : TypeId) (τ : List DTy) (fuel : Nat) (cs : List Value) (x : DataW H × List MemPlace), flatTy P k t = some τ → DataW.trod enc P w 0 spare held fuel t cs = some x → (∀ n ∈ DataW.weights P t x.1, n ≤ reachBytes) → Opens P w t τ cs
  | 0, t, τ, _, _, _, h, _, _ => by simp [flatTy] at h
  | k + 1, t, τ, fuel, cs, x, h, hx, hwt => by
    unfold flatTy at h
    split at h
    · rename_i hu
      obtain ⟨b, rfl, _⟩ := DataW.trod_bool hu hx
      simp only [Option.some.injEq] at h
      subst h
      exact ⟨[.bool b], ⟨rfl, fun j t d ht hd => by
        match j with
        | 0 => simp at ht hd; subst ht hd; exact .bool b
        | j + 1 => simp at ht⟩, .bool b, trivial⟩
    · rename_i kd hu
      obtain ⟨n, rfl, _, hw⟩ := DataW.trod_int hu hx
      simp only [Option.some.injEq] at h
      subst h
      exact ⟨[.int kd n], ⟨rfl, fun j t d ht hd => by
        match j with
        | 0 => simp at ht hd; subst ht hd; exact .int kd n hw
        | j + 1 => simp at ht⟩, .int kd n, trivial⟩
    · rename_i hu
      obtain ⟨s, rfl, hxe, hw⟩ := DataW.trod_string hu hx
      have hz : s.size ≤ reachBytes := by
        have h0 := hwt s.data.toList.length (by
          rw [hxe]
          show _ ∈ DataW.weights P t (.lit (.string s.data.toList))
          rw [DataW.weights]
          exact List.mem_singleton.2 rfl)
        rw [Array.length_toList] at h0
        exact h0
      simp only [Option.some.injEq] at h
      subst h
      exact ⟨[.str s], ⟨rfl, fun j t d ht hd => by
        match j with
        | 0 => simp at ht hd; subst ht hd; exact .str s hw hz
        | j + 1 => simp at ht⟩, .str s, trivial⟩
    · rename_i e hu
      split at h
      · rename_i σ hσ
        cases hb : (Nat.beq σ.length (P.cellsOf e) && Nat.ble 1 σ.length) with
        | false => rw [hb] at h; simp at h
        | true =>
          rw [hb] at h
          simp only [cond_true, Option.some.injEq] at h
          subst h
          simp only [Bool.and_eq_true] at hb
          have hsz := Nat.eq_of_beq_eq_true hb.1
          have hpos : 1 ≤ σ.length := by simpa using hb.2
          have one : ∀ d : D, Conf1 (.sl (P.bytesOf e) σ) d → Conf [.sl (P.bytesOf e) σ] [d] := fun d hd => ⟨rfl, fun j t d' ht hd' => by
            match j with
            | 0 => simp at ht hd'; subst ht hd'; exact hd
            | j + 1 => simp at ht⟩
          rcases DataW.trod_slice hu hx with ⟨rfl, _⟩ | ⟨a, len, cap, elems, rest, n, rfl, rfl, hxe, _, hl, hm, hlen, hel, _, _⟩
          · exact ⟨[.sl σ.length 0 fun _ => []], one _ (.sl _ σ 0 _ (Nat.zero_le _) (by simp) (fun i hi => absurd hi (Nat.not_lt_zero _)) (fun i j t d hi => absurd hi (Nat.not_lt_zero _))), .emp _ _ _ _, trivial⟩
          · have hin : ∀ y ∈ elems, ∀ n ∈ DataW.weights P e y.1, n ≤ reachBytes := fun y hy n hn => hwt n (by
              rw [hxe]
              show _ ∈ DataW.weights P t (.slice (elems.map (·.1)) (rest.map (·.1)))
              simp only [DataW.weights, hu, List.mem_cons, List.mem_append]
              exact .inr (.inl (weightsAll_mem (List.mem_map_of_mem hy) n hn)))
            have hz : len * P.bytesOf e ≤ reachBytes := by
              have h0 := hwt (((elems.map (·.1)).length + (rest.map (·.1)).length) * P.bytesOf e) (by
                rw [hxe]
                show _ ∈ DataW.weights P t (.slice (elems.map (·.1)) (rest.map (·.1)))
                simp only [DataW.weights, hu, List.mem_cons]
                exact .inl trivial)
              refine Nat.le_trans (Nat.mul_le_mul_right _ ?_) h0
              simp only [List.length_map]
              omega
            -- each element
            have each : ∀ i, i < len → ∃ (cs' : List Value) (ds : List D), cs'.length = σ.length ∧ (∀ j, j < σ.length → w.cell? ((a.add (i * σ.length)).add j) = cs'[j]?) ∧ Conf σ ds ∧ All2 (RD (Old w) w) ds cs' := fun i hi => by
              have h1 := hel i hi
              obtain ⟨y, hy⟩ : ∃ y, elems[i]? = some y := ⟨_, List.getElem?_eq_getElem (by omega)⟩
              rw [hy, Option.bind_eq_some_iff] at h1
              obtain ⟨cs', h2, h3⟩ := h1
              obtain ⟨h4, h5⟩ := cells_get h2
              obtain ⟨ds, h6, h7⟩ := trod_opens k e σ n cs' y hσ h3 (hin y (List.mem_of_getElem? hy))
              rw [← hsz] at h4 h5
              exact ⟨cs', ds, h4, h5, h6, h7⟩
            by_cases h0 : len = 0
            · subst h0
              exact ⟨[.sl σ.length 0 fun _ => []], one _ (.sl _ σ 0 _ (Nat.zero_le _) (by simp) (fun i hi => absurd hi (Nat.not_lt_zero _)) (fun i j t d hi => absurd hi (Nat.not_lt_zero _))), .emp _ _ _ _, trivial⟩
            · let ff : Nat → List D := fun i => if h : i < len then Classical.choose (Classical.choose_spec (each i h)) else []
              let cc : Nat → List Value := fun i => if h : i < len then Classical.choose (each i h) else []
              have prop : ∀ i, i < len → (cc i).length = σ.length ∧ (∀ j, j < σ.length → w.cell? ((a.add (i * σ.length)).add j) = (cc i)[j]?) ∧ Conf σ (ff i) ∧ All2 (RD (Old w) w) (ff i) (cc i) := fun i hi => by
                have e1 : ff i = Classical.choose (Classical.choose_spec (each i hi)) := by simp only [ff, hi, dite_true]
                have e2 : cc i = Classical.choose (each i hi) := by simp only [cc, hi, dite_true]
                rw [e1, e2]
                exact Classical.choose_spec (Classical.choose_spec (each i hi))
              have hsp : Old w a.block ∧ a.spot = none := by
                obtain ⟨p1, p2, _⟩ := prop 0 (by omega)
                have hc := p2 0 (by omega)
                rw [List.getElem?_eq_getElem (by omega)] at hc
                have := cell_old hc
                simpa [Addr.add] using this
              obtain ⟨b, o, sp⟩ := a
              simp only at hsp
              obtain ⟨hb', rfl⟩ := hsp
              refine ⟨[.sl σ.length len ff], one _ (.sl _ σ len ff (by omega) hz (fun i hi => (prop i hi).2.2.1.1) (fun i j t d hi ht hd => (prop i hi).2.2.1.2 j t d ht hd)), ?_, trivial⟩
              refine .sl σ.length len ff b o cap (fun i j => ((cc i)[j]?).getD undef) hb' hl (fun i j hi hj => ?_) (fun i hi => (prop i hi).2.2.1.1) (fun i j d hi hd => ?_)
              · obtain ⟨p1, p2, _⟩ := prop i hi
                have hc := p2 j hj
                rw [Addr.add_lit, Addr.add_lit] at hc
                rw [← Nat.add_assoc, hc, List.getElem?_eq_getElem (by omega)]
                rfl
              · obtain ⟨p1, p2, p3, p4⟩ := prop i hi
                obtain ⟨c, c1, c2⟩ := p4.get hd
                rw [c1]
                exact c2
      · simp at h
    · rename_i fs hu
      split at h
      · rename_i σ hσ
        cases hb : Nat.beq σ.length (P.cellsOf t) with
        | false => rw [hb] at h; simp at h
        | true =>
          rw [hb] at h
          simp only [cond_true, Option.some.injEq] at h
          subst h
          have hsz := Nat.eq_of_beq_eq_true hb
          obtain ⟨xs, n, rfl, hxe, hlen, _, hfs⟩ := DataW.trod_struct hu hx
          have := fs_open (P := P) (w := w) (flatTy P k) (fs.toList.map fun f => (f.offset, f.type)) 0 σ cs hσ (by omega) (fun f hf σ' hσ' => by
            obtain ⟨f0, hf0, rfl⟩ := List.mem_map.1 hf
            obtain ⟨i, hi⟩ := List.getElem?_of_mem hf0
            have h1 := hfs i f0 (by simpa using hi)
            have hlt : i < xs.length := by
              have := (List.getElem?_eq_some_iff.1 hi).1
              simp at this
              omega
            rw [List.getElem?_eq_getElem hlt] at h1
            exact trod_opens k f0.type σ' n _ _ hσ' h1 (fun m hm => hwt m (by
              rw [hxe]
              show _ ∈ DataW.weights P t (.agg (xs.map (·.1)))
              simp only [DataW.weights, hu]
              exact DataW.weights_mem_each (j := i) (by simpa using congrArg (Option.map Field.type) hi) (by simp [List.getElem?_eq_getElem hlt]) m hm)))
          rw [List.drop_zero] at this
          exact this
      · simp at h
    · simp at h

theorem okWide_one {t : TypeId} {r : Reach} {base : Nat} {v : Value} (h : Value.okWide P w r base t v) (hu : P.underlying t = some .bool ∨ (∃ k, P.underlying t = some (.int k)) ∨ P.underlying t = some .string ∨ ∃ e, P.underlying t = some (.slice e)) : v.cells = #[v] := by
  unfold Value.okWide at h
  have go : Cell.okWide P w r base t v → v.cells = #[v] := fun h => by
    unfold Cell.okWide at h
    rcases hu with hu | ⟨k, hu⟩ | hu | ⟨e, hu⟩ <;> rw [hu] at h <;> simp only at h <;> unfold Cell.ok at h <;> rw [hu] at h <;> cases v <;> first | rfl | exact h.elim | (simp at h)
  rcases hu with hu | ⟨k, hu⟩ | hu | ⟨e, hu⟩ <;> rw [hu] at h <;> exact go h

/-- AN ARGUMENT OF ONE CELL, opened. -/
theorem open_cell {t : TypeId} {r : Reach} {base : Nat} {v : Value} {d : DataW H} {ps : List MemPlace} {σ : DTy} (k : Nat) (hok : Value.okWide P w r base t v) (h : DataW.Trod enc P w 0 spare held t v d ps)
    (hu : P.underlying t = some .bool ∨ (∃ k, P.underlying t = some (.int k)) ∨ P.underlying t = some .string ∨ ∃ e, P.underlying t = some (.slice e)) (hf : flatTy P k t = some [σ]) (hwt : ∀ n ∈ DataW.weights P t d, n ≤ reachBytes) : ∃ x, Conf1 σ x ∧ RD (Old w) w x v := by
  obtain ⟨fuel, h⟩ := h
  rw [okWide_one hok hu] at h
  obtain ⟨ds, hc, hr⟩ := trod_opens k t [σ] fuel _ _ hf h hwt
  match ds, hr with
  | [x], hr => exact ⟨x, hc.2 0 σ x rfl rfl, hr.1⟩
  | [], hr => exact hr.elim
  | _ :: _ :: _, hr => exact hr.2.elim

/-- An argument that is a struct, opened. -/
theorem open_struct {t : TypeId} {r : Reach} {base : Nat} {v : Value} {d : DataW H} {ps : List MemPlace} {τ : List DTy} {fs : Array Field} (k : Nat) (hok : Value.okWide P w r base t v) (h : DataW.Trod enc P w 0 spare held t v d ps)
    (hu : P.underlying t = some (.struct fs)) (hf : flatTy P k t = some τ) (hwt : ∀ n ∈ DataW.weights P t d, n ≤ reachBytes) : ∃ (cs : List Value) (ds : List D), v = .agg cs.toArray ∧ Conf τ ds ∧ All2 (RD (Old w) w) ds cs := by
  unfold Value.okWide at hok
  rw [hu] at hok
  obtain ⟨cs, rfl, _, _⟩ := hok
  obtain ⟨fuel, h⟩ := h
  obtain ⟨ds, hc, hr⟩ := trod_opens k t τ fuel _ _ hf h hwt
  exact ⟨cs.toList, ds, by simp, hc, hr⟩
end

theorem DEq.rfl' (d : D) : DEq d d := by
  cases d with
  | int k n => show bif kbeq k k then n = n else False; simp [kbeq]
  | bool b => exact rfl
  | str s => exact rfl
  | sl z n f => exact ⟨rfl, fun _ => rfl, fun _ _ => rfl⟩
  | nf => trivial
  | ni => trivial
  | np => trivial
  | ifc t ns => exact ⟨rfl, rfl⟩
theorem veq_d {d d' : D} (h : d = d') : VEq (.d d) (.d d') := by subst h; exact DEq.rfl' d

/-- Data that read alike. -/
inductive DQ : D → D → Prop
  | refl (d : D) : DQ d d
  | emp (z z' : Nat) (f f' : Nat → List D) : DQ (.sl z 0 f) (.sl z' 0 f')
  | sl (z n : Nat) (f f' : Nat → List D) (hl : ∀ i, i < n → (f i).length = (f' i).length) (h : ∀ (i j : Nat) (d d' : D), i < n → (f i)[j]? = some d → (f' i)[j]? = some d' → DQ d d') : DQ (.sl z n f) (.sl z n f')

theorem DQ.sound {F : Nat → Prop} {w : World} {d d' : D} (h : DQ d d') : ∀ {v : Value}, RD F w d v → RD F w d' v := by
  induction h with
  | refl d => exact fun h => h
  | emp z z' f f' => intro v hr; cases hr <;> exact .emp _ _ _ _
  | sl z n f f' hl _ ih =>
    intro v hr
    cases hr with
    | emp => exact .emp _ _ _ _
    | sl _ _ _ b o cap cs hF hn hc hlen hrr =>
      refine .sl _ _ _ b o cap cs hF hn hc (fun i hi => by rw [← hl i hi]; exact hlen i hi) (fun i j d' hi hd' => ?_)
      have hj : j < (f i).length := by rw [hl i hi]; exact (List.getElem?_eq_some_iff.1 hd').1
      exact ih i j _ d' hi (List.getElem?_eq_getElem hj) hd' (hrr i j _ hi (List.getElem?_eq_getElem hj))

/-- A slice whose elements are of one cell. -/
theorem conf_one {b : Nat} {σ : DTy} {x : D} (h : Conf1 (.sl b [σ]) x) : ∃ (n : Nat) (g : Nat → D), DQ x (.sl 1 n fun i => [g i]) ∧ (n ≤ maxLen ∧ n * b ≤ reachBytes) ∧ ∀ i, i < n → Conf1 σ (g i) := by
  cases h with
  | sl _ _ n f hn hz hl hc =>
    have one : ∀ i, i < n → ∃ d, f i = [d] := fun i hi => by
      have := hl i hi
      match hf : f i with
      | [d] => exact ⟨d, rfl⟩
      | [] => rw [hf] at this; cases this
      | _ :: _ :: _ => rw [hf] at this; simp at this
    refine ⟨n, fun i => (f i).headD (.bool false), .sl 1 n f _ (fun i hi => by rw [hl i hi]; rfl) (fun i j d d' hi hd hd' => ?_), ⟨hn, hz⟩, fun i hi => ?_⟩
    · obtain ⟨y, hy⟩ := one i hi
      dsimp only at hd'
      rw [hy] at hd hd'
      match j with
      | 0 => simp at hd hd'; subst hd hd'; exact .refl _
      | j + 1 => simp at hd
    · obtain ⟨y, hy⟩ := one i hi
      show Conf1 σ ((f i).headD (.bool false))
      rw [hy]
      exact hc i 0 σ y hi rfl (by rw [hy]; rfl)

theorem DQ.trans {a b : D} (h : DQ a b) : ∀ {c : D}, DQ b c → DQ a c := by
  induction h with
  | refl d => exact fun h => h
  | emp z z' f f' =>
    intro c hc
    cases hc with
    | refl => exact .emp _ _ _ _
    | emp => exact .emp _ _ _ _
    | sl _ _ _ f'' => exact .emp _ _ _ _
  | sl z n f f' hl h ih =>
    intro c hc
    cases hc with
    | refl => exact .sl z n f f' hl h
    | emp => exact .emp _ _ _ _
    | sl _ _ _ f'' hl' h' =>
      refine .sl z n f f'' (fun i hi => (hl i hi).trans (hl' i hi)) fun i j d d'' hi hd hd'' => ?_
      have hj : j < (f' i).length := by rw [← hl i hi]; exact (List.getElem?_eq_some_iff.1 hd).1
      exact ih i j d _ hi hd (List.getElem?_eq_getElem hj) (h' i j _ d'' hi (List.getElem?_eq_getElem hj) hd'')

/-! ### lists of numbers, lists of these -/
def dInts (l : List Int) : D := .sl 1 l.length fun j => [.int .i64 (l.getD j 0)]
def dRows (to : List (List Int)) : D := .sl 1 to.length fun i => [dInts (to.getD i [])]

theorem conf_int {k : IntKind} {x : D} (h : Conf1 (.int k) x) : ∃ n, x = .int k n ∧ (Lit.int k n).wf = true := by
  cases h with
  | int _ n h => exact ⟨n, rfl, h⟩
theorem conf_ints {b : Nat} {x : D} (h : Conf1 (.sl b [.int .i64]) x) : ∃ l : List Int, DQ x (dInts l) ∧ (l.length ≤ maxLen ∧ l.length * b ≤ reachBytes) ∧ ∀ y ∈ l, (Lit.int .i64 y).wf = true := by
  obtain ⟨n, g, hq, hn, hg⟩ := conf_one h
  let num : D → Int := fun | .int _ n => n | _ => 0
  have hnum : ∀ i, i < n → g i = .int .i64 (num (g i)) ∧ (Lit.int .i64 (num (g i))).wf = true := fun i hi => by
    obtain ⟨m, e, hw⟩ := conf_int (hg i hi)
    rw [e]
    exact ⟨rfl, hw⟩
  refine ⟨(List.range n).map fun i => num (g i), hq.trans ?_, by simpa using hn, fun y hy => ?_⟩
  · unfold dInts
    rw [show ((List.range n).map fun i => num (g i)).length = n by simp]
    refine .sl 1 n _ _ (fun i hi => rfl) fun i j d d' hi hd hd' => ?_
    match j with
    | 0 =>
      simp only [List.getElem?_cons_zero, Option.some.injEq] at hd hd'
      subst hd hd'
      rw [(hnum i hi).1]
      simp [List.getD_eq_getElem?_getD, hi]
      exact .refl _
    | j + 1 => simp at hd
  · obtain ⟨i, hi, rfl⟩ := List.mem_map.1 hy
    exact (hnum i (List.mem_range.1 hi)).2
theorem conf_rows {b b' : Nat} {x : D} (h : Conf1 (.sl b [.sl b' [.int .i64]]) x) : ∃ to : List (List Int), DQ x (dRows to) ∧ (to.length ≤ maxLen ∧ to.length * b ≤ reachBytes) ∧ ∀ l ∈ to, (l.length ≤ maxLen ∧ l.length * b' ≤ reachBytes) ∧ ∀ y ∈ l, (Lit.int .i64 y).wf = true := by
  obtain ⟨n, g, hq, hn, hg⟩ := conf_one h
  let row : Nat → List Int := fun i => if h : i < n then Classical.choose (conf_ints (hg i h)) else []
  have hrow : ∀ i, i < n → DQ (g i) (dInts (row i)) ∧ ((row i).length ≤ maxLen ∧ (row i).length * b' ≤ reachBytes) ∧ ∀ y ∈ row i, (Lit.int .i64 y).wf = true := fun i hi => by
    have e : row i = Classical.choose (conf_ints (hg i hi)) := by simp only [row, hi, dite_true]
    rw [e]
    exact Classical.choose_spec (conf_ints (hg i hi))
  refine ⟨(List.range n).map row, hq.trans ?_, by simpa using hn, fun l hl => ?_⟩
  · unfold dRows
    rw [show ((List.range n).map row).length = n by simp]
    refine .sl 1 n _ _ (fun i hi => rfl) fun i j d d' hi hd hd' => ?_
    match j with
    | 0 =>
      simp only [List.getElem?_cons_zero, Option.some.injEq] at hd hd'
      subst hd hd'
      simp only [List.getD_eq_getElem?_getD, List.getElem?_map, List.getElem?_range hi, Option.map_some, Option.getD_some]
      exact (hrow i hi).1
    | j + 1 => simp at hd
  · obtain ⟨i, hi, rfl⟩ := List.mem_map.1 hl
    exact (hrow i (List.mem_range.1 hi)).2
end Go.Sx
