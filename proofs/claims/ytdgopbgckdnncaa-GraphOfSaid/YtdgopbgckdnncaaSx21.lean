/-
  Sx, part 21: ranging over a string; a slice that is written no more.
-/
import Derived.Test.YtdgopbgckdnncaaSx20
set_option linter.unusedVariables false
set_option linter.unusedSimpArgs false
namespace Go.Sx

def nextOf (s : St) (o : Oper) : Option (Nat × Nat × ByteArray × Nat) :=
  match o.op, o.dst with
  | .next it true, some d => match ev s.L [] it with
    | some (.ptr id 0) => match get s.H id with
      | some (.iter b pos) => some (id, d, b, pos)
      | _ => none
    | _ => none
  | _, _ => none

def frz (id sz n : Nat) (f : Nat → List D) : V → V
  | .own i => bif Nat.beq i id then .d (.sl sz n f) else .own i
  | .vptr i z k o => bif Nat.beq i id then .dead else .vptr i z k o
  | v => v

def isVec : Ch → Bool
  | .vec .. => true
  | _ => false

/-- The state in which chunk id is data. -/
def frozen (s : St) (id : Nat) : St :=
  match get s.H id with
  | some (.vec e sz n f) => { L := mapL (frz id sz n f) s.L, H := mapH (frz id sz n f) (delH id s.H), m := s.m }
  | _ => s

section
variable {C : Ctx} {s : St} {a : Act} {w w' : World} {ρ : Nat → Value} {F : Nat → Prop} {g : Cfg} {K : List Item} {Φ : Exit → St → Prop}

/-- THE NEXT RUNE OF A STRING THAT IS RANGED OVER, OR THE END. -/
theorem Go.next (hn : g.n = C.n) {all : Array Oper} {o : Oper} {rest : List Oper} {id d : Nat} {b : ByteArray} {p : Nat} (hgd : o.guard = none) (ho : nextOf s o = some (id, d, b, p)) (hdn : Nat.blt d g.n = true)
    (h1 : p < b.size → Go C (.ops all rest :: K) { L := put s.L d (.tup [vb true, vi (p : Int), .d (.int .i32 ((Utf8.decode b p).1 : Int))]), H := (id, .iter b (p + (Utf8.decode b p).2)) :: delH id s.H, m := s.m } Φ)
    (h2 : ¬ p < b.size → Go C (.ops all rest :: K) { s with L := put s.L d (.tup [vb false]) } Φ) : Go C (.ops all (o :: rest) :: K) s Φ := by
  rintro a w ⟨ρ, F, h⟩
  unfold nextOf at ho
  split at ho
  · rename_i it d' hop hd
    split at ho
    · rename_i id' hit
      split at ho
      · rename_i b' p' hgH
        simp only [Option.some.injEq, Prod.mk.injEq] at ho
        obtain ⟨rfl, rfl, rfl, rfl⟩ := ho
        obtain ⟨bl, hb, hv⟩ := (show R0 ρ F w (.ptr id' 0) _ from (ev_sound h (pc_nil _) hit).1)
        obtain ⟨bl', hb', hheap⟩ := h.ch id' _ (get_mem hgH)
        rw [hb] at hb'
        simp only [Value.pointer.injEq, Option.some.injEq, Addr.mk.injEq, and_true] at hb'
        subst hb'
        have hdn' : d' < C.n := by rw [← hn]; simpa using hdn
        by_cases hp : p' < b'.size
        · have hrun : (execOp a.eval o).run C.P w = .ok (.value (.tuple #[.bool true, .int .i64 (p' : Int), .int .i32 ((Utf8.decode b' p').1 : Int)])) { w with heap := w.heap.setIfInBounds bl (.stringIter b' (p' + (Utf8.decode b' p').2)) } := by
            simp only [execOp, hop, hv]
            refine run_v ?_
            simp only [Instr.next, getObj, setObj, Sem.run_bind, Sem.run, hheap, Result.andThen, hp, if_true]
            simp [Sem.run, hheap, goInt]
          refine ops_next hgd (.inl hrun) ?_
          rw [hd]
          have hlt : bl < w.heap.size := (Array.getElem?_eq_some_iff.1 hheap).1
          have hm : Mod (blk (ρ id')) w { w with heap := w.heap.setIfInBounds bl (.stringIter b' (p' + (Utf8.decode b' p').2)) } := by
            rw [hb]
            refine ⟨rfl, rfl, rfl, by simp, fun k _ hk => ?_⟩
            have : bl ≠ k := fun e => hk (by rw [← e]; rfl)
            simp [Array.getElem?_setIfInBounds, this]
          have ht := h.touch (get_mem hgH) hm (c' := .iter b' (p' + (Utf8.decode b' p').2)) ⟨bl, hb, by simp [hlt]⟩ rfl
          exact h1 hp _ _ ⟨ρ, F, ht.put hdn' ⟨[.bool true, .int .i64 (p' : Int), .int .i32 ((Utf8.decode b' p').1 : Int)], rfl, RD.bool _, RD.int _ _, RD.int _ _, trivial⟩ rfl⟩
        · have hrun : (execOp a.eval o).run C.P w = .ok (.value (.tuple #[.bool false])) w := by
            simp only [execOp, hop, hv]
            refine run_v ?_
            simp [Instr.next, getObj, Sem.run, hheap, hp]
          refine ops_next hgd (.inl hrun) ?_
          rw [hd]
          exact h2 hp _ _ ⟨ρ, F, h.put hdn' ⟨[.bool false], rfl, RD.bool _, trivial⟩ rfl⟩
      · simp at ho
    · simp at ho
  · simp at ho

theorem frz_leaf {id sz n : Nat} {f : Nat → List D} {u : V} (h : u.leaf = true) : (frz id sz n f u).leaf = true := by
  cases u with
  | own i => simp only [frz]; cases Nat.beq i id <;> rfl
  | vptr i z k o => simp only [frz]; cases Nat.beq i id <;> rfl
  | _ => exact h
theorem frz_fresh {id sz n m : Nat} {f : Nat → List D} {u : V} (h : fresh m u = true) : fresh m (frz id sz n f u) = true := by
  cases u with
  | own i => simp only [frz]; cases Nat.beq i id <;> first | exact h | rfl
  | vptr i z k o => simp only [frz]; cases Nat.beq i id <;> first | exact h | rfl
  | _ => exact h
theorem frz1_fresh {id sz n m : Nat} {f : Nat → List D} {v : V} (hv : v.all1 (fresh m) = true) : (v.map1 (frz id sz n f)).all1 (fresh m) = true := by
  cases v with
  | fn g c => simp only [V.map1, V.all1, List.all_map, List.all_eq_true, Function.comp] at *; exact fun x hx => frz_fresh (hv x hx)
  | own i => simp only [V.map1, frz]; cases Nat.beq i id <;> first | exact hv | rfl
  | vptr i z k o => simp only [V.map1, frz]; cases Nat.beq i id <;> first | exact hv | rfl
  | _ => exact hv
theorem frz2_fresh {id sz n m : Nat} {f : Nat → List D} {v : V} (hv : v.all2 (fresh m) = true) : (v.map2 (frz id sz n f)).all2 (fresh m) = true := by
  cases v with
  | agg us => simp only [V.map2, V.all2, List.all_map, List.all_eq_true, Function.comp] at *; exact fun x hx => frz1_fresh (hv x hx)
  | fn g c => exact frz1_fresh (v := .fn g c) hv
  | own i => simp only [V.map2, V.map1, frz]; cases Nat.beq i id <;> first | exact hv | rfl
  | vptr i z k o => simp only [V.map2, V.map1, frz]; cases Nat.beq i id <;> first | exact hv | rfl
  | _ => exact hv
theorem frz3_fresh {id sz n m : Nat} {f : Nat → List D} {v : V} (hv : v.all3 (fresh m) = true) : (v.map3 (frz id sz n f)).all3 (fresh m) = true := by
  cases v with
  | tup us => simp only [V.map3, V.all3, List.all_map, List.all_eq_true, Function.comp] at *; exact fun x hx => frz2_fresh (hv x hx)
  | agg us => exact frz2_fresh (v := .agg us) hv
  | fn g c => exact frz2_fresh (v := .fn g c) hv
  | own i => simp only [V.map3, V.map2, V.map1, frz]; cases Nat.beq i id <;> first | exact hv | rfl
  | vptr i z k o => simp only [V.map3, V.map2, V.map1, frz]; cases Nat.beq i id <;> first | exact hv | rfl
  | _ => exact hv
theorem frz4_fresh {id sz n m : Nat} {f : Nat → List D} {v : V} (hv : v.all4 (fresh m) = true) : (v.map4 (frz id sz n f)).all4 (fresh m) = true := by
  cases v with
  | g p u => exact frz3_fresh hv
  | tup us => exact frz3_fresh (v := .tup us) hv
  | agg us => exact frz3_fresh (v := .agg us) hv
  | fn g c => exact frz3_fresh (v := .fn g c) hv
  | own i => simp only [V.map4, V.map3, V.map2, V.map1, frz]; cases Nat.beq i id <;> first | exact hv | rfl
  | vptr i z k o => simp only [V.map4, V.map3, V.map2, V.map1, frz]; cases Nat.beq i id <;> first | exact hv | rfl
  | _ => exact hv

/-- AN OWNED SLICE BECOMES DATA. -/
theorem Go.freeze (id : Nat) (k : Go C K (frozen s id) Φ) : Go C K s Φ := by
  rintro a w ⟨ρ, F, h⟩
  refine k a w ?_
  unfold frozen
  split
  · rename_i e sz n f hgH
    obtain ⟨xs, hown, hel⟩ := h.ch id _ (get_mem hgH)
    let F' : Nat → Prop := fun k => F k ∨ blk (ρ id) = some k
    have hFF : ∀ k, F k → F' k := fun k hk => .inl hk
    have hdat : RD F' w (.sl sz n f) (ρ id) := by
      rcases hown.2 with ⟨h1, h2⟩ | ⟨b, cap, cur, h1, _, h3, h4, h5, h6, h7⟩
      · subst h2; rw [h1]; exact .emp _ _ _ _
      · rw [h1]
        refine .sl sz n f b 0 cap (fun i j => (xs[i * sz + j]?).getD undef) (.inr (by rw [h1]; rfl)) h4 (fun i j hi hj => ?_) (fun i hi => (hel i hi).1) (fun i j d hi hd => ?_)
        · have hl := (hel i hi).1
          obtain ⟨c, c1, c2⟩ := (hel i hi).2 j _ (List.getElem?_eq_getElem (show j < (f i).length by omega))
          have := hown.cells (g := b) (by rw [h1]; rfl) _ _ c1
          rw [Addr.add_lit] at this
          rw [this, c1]; rfl
        · obtain ⟨c, c1, c2⟩ := (hel i hi).2 j d hd
          rw [c1]
          exact RD.mono hFF (fun _ _ => rfl) c2
    refine ⟨ρ, F', h.change (frz id sz n f) (fun u v hu hr => ?_) (fun t v hv => ?_) (fun i c hc => ?_) hFF (fun _ _ => rfl) (fun k hk => ?_) h.keep (Nat.le_refl _) (fun k hk => ?_) h.fixd.2⟩
    · cases u with
      | own i =>
        simp only [frz]
        cases hi : Nat.beq i id with
        | true =>
          have := Nat.eq_of_beq_eq_true hi
          subst this
          obtain ⟨h1, _⟩ := hr
          subst h1
          exact hdat
        | false => exact R0.world (u := .own i) hFF (fun _ _ => rfl) hr
      | vptr i z k o =>
        simp only [frz]
        cases hi : Nat.beq i id with
        | true => exact hr.one'
        | false => exact R0.world (u := .vptr i z k o) hFF (fun _ _ => rfl) hr
      | d x => exact R0.world (u := .d x) hFF (fun _ _ => rfl) hr
      | eptr x => exact R0.world (u := .eptr x) hFF (fun _ _ => rfl) hr
      | nils => exact hr
      | ptr i o => exact hr
      | dead => exact hr
      | _ => exact hr.elim
    · obtain ⟨v0, h1, rfl⟩ := mem_mapL hv
      exact ⟨⟨v0, h1, rfl⟩, frz4_fresh (h.freshL t v0 h1)⟩
    · obtain ⟨c0, h1, rfl⟩ := mem_mapH hc
      obtain ⟨h1, hne⟩ := mem_delH h1
      refine ⟨⟨c0, h1, rfl⟩, ?_, rfl, fun b e2 => ⟨rfl, fun hb => ?_⟩⟩
      · have := (h.freshH i c0 h1).2
        cases c0 with
        | box us => simp only [Ch.map, Ch.all, List.all_map, List.all_eq_true, Function.comp] at *; exact fun y hy => frz1_fresh (this y hy)
        | _ => rfl
      · rw [bks_map] at e2
        rcases hb with hb | hb
        · exact h.out i c0 b h1 e2 hb
        · exact h.sep i id c0 _ b h1 (get_mem hgH) hne e2 hb
    · rcases hk with hk | hk
      · exact h.lt k hk
      · exact (h.ch id _ (get_mem hgH)).lt hk
    · rcases hk with hk | hk
      · exact h.sub k hk
      · rcases h.mine id _ k (get_mem hgH) hk with h1 | h1
        · exact .inr (.inl h1)
        · exact .inr (.inr h1)
  · exact ⟨ρ, F, h⟩
end
end Go.Sx
