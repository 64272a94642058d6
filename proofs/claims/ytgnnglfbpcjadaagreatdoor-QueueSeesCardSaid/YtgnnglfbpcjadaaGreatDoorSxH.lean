/- Texts put together: Sx49, Sx50, Sx51, Sx52, Sx53, Sx54, Sx55. -/
import Derived.Test.YtgnnglfbpcjadaaGreatDoorSxG
import Derived.RangeFuncSeq
import Derived.Shelf.SlicesE.Clone

/-
  Sx, part 49: contracts of the library's builders of text, and of texts joined.
-/
set_option linter.unusedVariables false
set_option linter.unusedSimpArgs false
namespace Go.Sx
open Go.Shelf Go.RowKit Go.Proofs

/-- The bytes of a text, as a row. -/
abbrev bytesC (e : TypeId) (l : ByteArray) : Ch := .vec e 1 l.size fun i => [.int .u8 (sb l i)]
theorem sb_at (l : ByteArray) {i : Nat} (hi : i < l.size) : (Lib.byteCells l.data.toList)[i]? = some (.int .u8 (sb l i)) := by
  have hi' : i < l.data.toList.length := by simpa using hi
  simp only [Lib.byteCells, List.getElem?_map, List.getElem?_eq_getElem hi', Option.map_some, sb, List.getD_eq_getElem?_getD, Option.getD_some]
theorem cells_bytes (l : ByteArray) : (Lib.byteCells l.data.toList).length = l.size := by simp [Lib.byteCells]
theorem strCells_bytes (l : ByteArray) : Lib.strCells l = Lib.byteCells l.data.toList := rfl
theorem elems_bytes {F : Nat → Prop} {w : World} (l : ByteArray) : Elems F w 1 l.size (fun i => [.int .u8 (sb l i)]) (Lib.byteCells l.data.toList) := fun i hi => ⟨rfl, fun j d hd => by
  cases j with
  | zero =>
    simp only [List.getElem?_cons_zero, Option.some.injEq] at hd
    subst hd
    exact ⟨_, by rw [Nat.mul_one, Nat.add_zero]; exact sb_at l hi, .int _ _⟩
  | succ j => simp at hd⟩
theorem elems_eq {F : Nat → Prop} {w : World} {l : ByteArray} {xs : List Value} (hl : xs.length = l.size * 1) (h : Elems F w 1 l.size (fun i => [.int .u8 (sb l i)]) xs) : xs = Lib.byteCells l.data.toList := by
  refine List.ext_getElem? fun i => ?_
  by_cases hi : i < l.size
  · obtain ⟨c, h1, h2⟩ := (h i hi).2 0 _ rfl
    rw [Nat.mul_one, Nat.add_zero] at h1
    rw [h1, sb_at l hi]
    cases h2; rfl
  · rw [List.getElem?_eq_none (by omega), List.getElem?_eq_none (by rw [cells_bytes]; omega)]
theorem cells_app (l s : ByteArray) : Lib.byteCells l.data.toList ++ Lib.strCells s = Lib.byteCells (l ++ s).data.toList := by
  rw [strCells_bytes]
  simp only [Lib.byteCells, ByteArray.data_append, Array.toList_append, List.map_append]
theorem app_size' (l s : ByteArray) : (l ++ s).size = l.size + s.size := by
  show (l ++ s).data.size = l.data.size + s.data.size
  rw [ByteArray.data_append, Array.size_append]

section
variable {P : Pg} {r : Ren}
theorem Proc.ofWrite (L : Lays.n166 P.P r) (X : Builder.Extra P.P r) (hc : Callable P.P (r.f 166)) (l s : ByteArray) (hlen : l.size + s.size ≤ 140737488355328) :
    Proc P (r.f 166) 1 [.ptr 0 0, vs s] [.bld (r.t 72) (.own 1), bytesC (r.t 5) l] (.tup [vi s.size, .d .ni]) [.bld (r.t 72) (.own 1), bytesC (r.t 5) (l ++ s)] := by
  refine ⟨hc, rfl, rfl, by show 1 ≤ 2; omega, Nat.le_refl _, fun w F ρ vals hF hE hH hargs => ?_⟩
  match vals, hargs with
  | [v0, v1], ⟨h0, h1, _⟩ =>
    obtain ⟨b, e1, rfl⟩ := (show R0 ρ F w (.ptr 0 0) v0 from h0)
    cases (show RD F w _ v1 from h1)
    obtain ⟨b', p, x, c1, c2, c3, c4⟩ := hH.ch 0 _ rfl
    rw [e1] at c1
    simp only [Value.pointer.injEq, Option.some.injEq, Addr.mk.injEq, and_true] at c1
    subst c1
    obtain ⟨rfl, hmine⟩ := (show R0 ρ F w (.own 1) x from c4)
    obtain ⟨xs, d1, d2⟩ := hH.ch 1 _ rfl
    have d3 := elems_eq d1.1 d2
    subst d3
    have d1' : w.ownsRow 0 (r.t 5) 1 (ρ 1) (Lib.byteCells l.data.toList).length (Lib.byteCells l.data.toList) := by rw [cells_bytes]; exact d1
    refine (write_exact L X b p (ρ 1) _ s w c3 c2 d1' (by rw [cells_bytes]; exact hlen)).mono ?_
    rintro e w' ⟨rfl, v', k1, k2, k3, k4⟩
    rw [cells_bytes, cells_app] at k2
    have hown : ∀ k, (k = b ∨ blk (ρ 1) = some k) → ownB ρ [.bld (r.t 72) (.own 1), bytesC (r.t 5) l] k := fun k hk => by
      rcases hk with rfl | hk
      · exact ⟨0, by show 0 < 2; omega, by rw [e1]; rfl⟩
      · exact ⟨1, by show 1 < 2; omega, hk⟩
    have hFw : ∀ k, F k → w'.heap[k]? = w.heap[k]? := fun k hk => k3.block k (hF k hk) fun hS => by
      rcases hS with rfl | hS
      · exact hH.out 0 k (by show 0 < 2; omega) (by rw [e1]; rfl) hk
      · exact hH.out 1 k (by show 1 < 2; omega) hS hk
    have hne : blk v' ≠ some b := fun hb => by
      rcases k2.2 with ⟨h1, _⟩ | ⟨g, cap, cur, h1, _, h3, _⟩
      · rw [h1] at hb; simp [blk] at hb
      · rw [h1] at hb
        simp only [blk, Option.some.injEq] at hb
        subst hb
        rw [k1] at h3
        simp only [Option.some.injEq, Obj.cells.injEq] at h3
        exact X.neB5 h3.2.1
    have hm' : mine v' := by
      rcases k2.2 with ⟨h1, _⟩ | ⟨g, cap, cur, h1, _⟩ <;> exact .inl ⟨_, _, _, h1⟩
    let ρ' : Nat → Value := fun i => if i = 1 then v' else ρ i
    have r0 : ρ' 0 = .pointer (some ⟨b, 0, none⟩) := e1
    have r1 : ρ' 1 = v' := rfl
    refine ⟨_, ρ', F, rfl, ⟨k3.os, k3.tape, k3.output, k3.size, fun k hk hE => k3.block k hk fun hS => hE (hown k hS)⟩, fun i hi => by
      have : i = 0 := by omega
      subst this; rfl, fun _ hk => hk, fun k hk => Nat.lt_of_lt_of_le (hF k hk) k3.size, fun _ hk => .inl hk, ⟨[_, _], rfl, RD.int _ _, RD.ni, trivial⟩, ⟨fun i c hi => ?_, fun i j k hi hj hij => ?_, fun i k hi hk hFk => ?_⟩, fun i k hi hk => ?_⟩
    · match i, hi with
      | 0, hi =>
        simp only [List.getElem?_cons_zero, Option.some.injEq] at hi
        subst hi
        exact ⟨b, _, v', r0, k1, .inr rfl, ⟨rfl, hm'⟩⟩
      | 1, hi =>
        simp only [List.getElem?_cons_succ, List.getElem?_cons_zero, Option.some.injEq] at hi
        subst hi
        exact ⟨_, by rw [app_size', r1]; exact k2, elems_bytes _⟩
      | i + 2, hi => simp at hi
    · have : i = 0 ∧ j = 1 ∨ i = 1 ∧ j = 0 := by simp only [List.length_cons, List.length_nil] at hi hj; omega
      rcases this with ⟨rfl, rfl⟩ | ⟨rfl, rfl⟩
      · rw [r0, r1]; intro h h2
        simp only [blk, Option.some.injEq] at h
        subst h
        exact hne h2
      · rw [r0, r1]; intro h h2
        simp only [blk, Option.some.injEq] at h2
        subst h2
        exact hne h
    · have : i = 0 ∨ i = 1 := by simp only [List.length_cons, List.length_nil] at hi; omega
      rcases this with rfl | rfl
      · exact hH.out 0 k (by show 0 < 2; omega) (by rw [r0] at hk; rw [e1]; exact hk) hFk
      · rcases k4 k hk with h | h
        · have := hF k hFk; omega
        · exact hH.out 1 k (by show 1 < 2; omega) h hFk
    · have : i = 0 ∨ i = 1 := by simp only [List.length_cons, List.length_nil] at hi; omega
      rcases this with rfl | rfl
      · exact .inr ⟨0, by show 0 < 2; omega, by rw [r0] at hk; rw [e1]; exact hk⟩
      · rcases k4 k hk with h | h
        · exact .inl h
        · exact .inr ⟨1, by show 1 < 2; omega, h⟩
  | [], h => exact h.elim
  | [_], h => exact h.2.elim
  | _ :: _ :: _ :: _, h => exact h.2.2.elim
/-- What a builder holds is said, and the builder is let go. -/
theorem Proc.ofString (L : Lays.n169 P.P r) (X : Builder.Extra P.P r) (hc : Callable P.P (r.f 169)) (l : ByteArray) :
    Proc P (r.f 169) 1 [.ptr 0 0] [.bld (r.t 72) (.own 1), bytesC (r.t 5) l] (vs l) [.box [.dead, .dead], .vec (r.t 5) 1 0 fun _ => []] := by
  refine ⟨hc, rfl, rfl, by show 1 ≤ 2; omega, Nat.le_refl _, fun w F ρ vals hF hE hH hargs => ?_⟩
  match vals, hargs with
  | [v0], ⟨h0, _⟩ =>
    obtain ⟨b, e1, rfl⟩ := (show R0 ρ F w (.ptr 0 0) v0 from h0)
    obtain ⟨b', p, x, c1, c2, c3, c4⟩ := hH.ch 0 _ rfl
    rw [e1] at c1
    simp only [Value.pointer.injEq, Option.some.injEq, Addr.mk.injEq, and_true] at c1
    subst c1
    obtain ⟨rfl, hmine⟩ := (show R0 ρ F w (.own 1) x from c4)
    obtain ⟨xs, d1, d2⟩ := hH.ch 1 _ rfl
    have d3 := elems_eq d1.1 d2
    subst d3
    have hll : l.data.toList.length = l.size := by simp
    refine (string_exact L X b p (ρ 1) l.data.toList w c2 (by rw [hll]; exact d1)).mono ?_
    rintro e w' ⟨rfl, k3⟩
    have hne : blk (ρ 1) ≠ some b := fun hb => hH.sep 0 1 b (by show 0 < 2; omega) (by show 1 < 2; omega) (by omega) (by rw [e1]; rfl) hb
    have hb' : w'.heap[b]? = w.heap[b]? := k3.block b (Array.getElem?_eq_some_iff.1 c2).1 hne
    let ρ' : Nat → Value := fun i => if i = 1 then .slice none 0 0 else ρ i
    have r0 : ρ' 0 = .pointer (some ⟨b, 0, none⟩) := e1
    have r1 : ρ' 1 = .slice none 0 0 := rfl
    have pone : p.oneCell' = true := by rcases c3 with rfl | rfl <;> rfl
    have xone : (ρ 1).oneCell' = true := by
      rcases d1.2 with ⟨h1, _⟩ | ⟨g, cap, cur, h1, _⟩ <;> rw [h1] <;> rfl
    refine ⟨_, ρ', F, rfl, ⟨k3.os, k3.tape, k3.output, k3.size, fun k hk hE => k3.block k hk fun hS => hE ⟨1, by show 1 < 2; omega, hS⟩⟩, fun i hi => by
      have : i = 0 := by omega
      subst this; rfl, fun _ hk => hk, fun k hk => Nat.lt_of_lt_of_le (hF k hk) k3.size, fun _ hk => .inl hk, ?_, ⟨fun i c hi => ?_, fun i j k hi hj hij => ?_, fun i k hi hk hFk => ?_⟩, fun i k hi hk => ?_⟩
    · rw [bytes_mk]; exact RD.str _
    · match i, hi with
      | 0, hi =>
        simp only [List.getElem?_cons_zero, Option.some.injEq] at hi
        subst hi
        exact ⟨b, [p, ρ 1], _, r0, by rw [hb', c2], pone, xone, trivial⟩
      | 1, hi =>
        simp only [List.getElem?_cons_succ, List.getElem?_cons_zero, Option.some.injEq] at hi
        subst hi
        exact ⟨[], by rw [r1]; exact ⟨by simp, .inl ⟨rfl, rfl⟩⟩, fun k hk => absurd hk (Nat.not_lt_zero _)⟩
      | i + 2, hi => simp at hi
    · have : i = 0 ∧ j = 1 ∨ i = 1 ∧ j = 0 := by simp only [List.length_cons, List.length_nil] at hi hj; omega
      rcases this with ⟨rfl, rfl⟩ | ⟨rfl, rfl⟩ <;> (rw [r0, r1]; simp [blk])
    · have : i = 0 ∨ i = 1 := by simp only [List.length_cons, List.length_nil] at hi; omega
      rcases this with rfl | rfl
      · exact hH.out 0 k (by show 0 < 2; omega) (by rw [r0] at hk; rw [e1]; exact hk) hFk
      · rw [r1] at hk; simp [blk] at hk
    · have : i = 0 ∨ i = 1 := by simp only [List.length_cons, List.length_nil] at hi; omega
      rcases this with rfl | rfl
      · exact .inr ⟨0, by show 0 < 2; omega, by rw [r0] at hk; rw [e1]; exact hk⟩
      · rw [r1] at hk; simp [blk] at hk
  | [], h => exact h.elim
  | _ :: _ :: _, h => exact h.2.elim
theorem Proc.ofLen (L : Lays.n170 P.P r) (X : Builder.Extra P.P r) (hc : Callable P.P (r.f 170)) (l : ByteArray) :
    Proc P (r.f 170) 1 [.ptr 0 0] [.bld (r.t 72) (.own 1), bytesC (r.t 5) l] (vi l.size) [.bld (r.t 72) (.own 1), bytesC (r.t 5) l] := by
  refine ⟨hc, rfl, rfl, by show 1 ≤ 2; omega, Nat.le_refl _, fun w F ρ vals hF hE hH hargs => ?_⟩
  match vals, hargs with
  | [v0], ⟨h0, _⟩ =>
    obtain ⟨b, e1, rfl⟩ := (show R0 ρ F w (.ptr 0 0) v0 from h0)
    obtain ⟨b', p, x, c1, c2, c3, c4⟩ := hH.ch 0 _ rfl
    rw [e1] at c1
    simp only [Value.pointer.injEq, Option.some.injEq, Addr.mk.injEq, and_true] at c1
    subst c1
    obtain ⟨rfl, hmine⟩ := (show R0 ρ F w (.own 1) x from c4)
    obtain ⟨xs, d1, d2⟩ := hH.ch 1 _ rfl
    have d3 := elems_eq d1.1 d2
    subst d3
    have d1' : w.ownsRow 0 (r.t 5) 1 (ρ 1) (Lib.byteCells l.data.toList).length (Lib.byteCells l.data.toList) := by rw [cells_bytes]; exact d1
    have hne : (ρ 1).ownBlock ≠ some b := Lib.ownBlock_ne d1' c2 X.neB5
    have hat : Lib.IsBuilder (r.t 72) (r.t 5) 0 b (Lib.byteCells l.data.toList) w := by
      rcases c3 with rfl | rfl
      · exact .inl ⟨Nat.zero_le _, ρ 1, c2, d1', hne⟩
      · exact .inr ⟨Nat.zero_le _, ρ 1, c2, d1', hne⟩
    refine (Any.Builder_Len L 0 b _ w hat).mono ?_
    rintro e w' ⟨rfl, rfl⟩
    refine ⟨_, ρ, F, rfl, ⟨rfl, rfl, rfl, Nat.le_refl _, fun _ _ _ => rfl⟩, fun _ _ => rfl, fun _ hk => hk, hF, fun _ hk => .inl hk, ?_, hH, fun i k hi hk => .inr ⟨i, hi, hk⟩⟩
    rw [cells_bytes]; exact RD.int _ _
  | [], h => exact h.elim
  | _ :: _ :: _, h => exact h.2.elim
def joinB (xs : List ByteArray) (sep : ByteArray) : ByteArray := ⟨(Lib.join (xs.map (·.data.toList)) sep.data.toList).toArray⟩
/-- Texts joined. -/
theorem Pure.ofJoin (L : Lays.n156 P.P r) (X : Builder.Extra P.P r) (hc : Callable P.P (r.f 156)) (xs : List ByteArray) (sep : ByteArray) (hN : xs.length ≤ 140737488355328) (hlen : (joinB xs sep).size ≤ 140737488355328) :
    Pure P (r.f 156) [.d (.sl 1 xs.length fun i => [.str (xs.getD i .empty)]), vs sep] (vs (joinB xs sep)) [] := by
  refine ⟨hc, rfl, rfl, Nat.le_refl _, Nat.le_refl _, fun w F ρ vals hF hE hH hargs => ?_⟩
  have fin : ∀ {w' : World}, Below w.heap.size w w' → Post w F ρ 0 [] (vs (joinB xs sep)) [] (.returned (.string (joinB xs sep))) w' := fun ⟨b1, b2, b3, b4, b5⟩ =>
    ⟨_, ρ, F, rfl, ⟨b1, b2, b3, b4, fun k hk _ => b5 k hk⟩, fun _ _ => rfl, fun _ hk => hk, fun k hk => Nat.lt_of_lt_of_le (hF k hk) b4, fun _ hk => .inl hk, RD.str _, ⟨fun i c hi => by simp at hi, fun i j b hi => absurd hi (Nat.not_lt_zero _), fun i b hi => absurd hi (Nat.not_lt_zero _)⟩, fun i b hi => absurd hi (Nat.not_lt_zero _)⟩
  match vals, hargs with
  | [v0, v1], ⟨h0, h1, _⟩ =>
    cases (show RD F w _ v1 from h1)
    have h0 : RD F w (.sl 1 xs.length fun i => [.str (xs.getD i .empty)]) v0 := h0
    generalize hn : xs.length = n at h0
    cases h0 with
    | emp sz f a cap =>
      have : xs = [] := List.eq_nil_of_length_eq_zero hn
      subst this
      refine (Any.strings_Join_none L X a cap sep w).mono ?_
      rintro e w' ⟨rfl, rfl⟩
      exact fin (Below.refl _ _)
    | sl sz n f b o cap cs hFb hcap hcl hl hr =>
      subst hn
      refine (Any.strings_Join L X b o cap xs sep w (fun j x hx => ?_) (hF b hFb) hN (by omega) (by
        have : (joinB xs sep).size = (Lib.join (xs.map (·.data.toList)) sep.data.toList).length := by simp [joinB]; rfl
        rw [← this]; exact hlen)).mono ?_
      · have hj : j < xs.length := (List.getElem?_eq_some_iff.1 hx).1
        have e1 := hcl j 0 (by omega) (by omega)
        have e2 := hr j 0 (.str (xs.getD j .empty)) (by omega) rfl
        rw [Nat.mul_one, Nat.add_zero] at e1
        rw [e1]
        have e3 : xs.getD j .empty = x := by rw [List.getD_eq_getElem?_getD, hx]; rfl
        rw [e3] at e2
        generalize cs j 0 = y at e2 ⊢
        cases e2; rfl
      · rintro e w' ⟨rfl, hb⟩
        exact fin hb
  | [], h => exact h.elim
  | [_], h => exact h.2.elim
  | _ :: _ :: _ :: _, h => exact h.2.2.elim
end

/-- The buffer of a new builder is an own row of no bytes. -/
theorem Go.ownBld {C : Ctx} {s : St} {K : List Item} {Φ : Exit → St → Prop} (id : Nat) (e T : TypeId) (sz : Nat) (f : Nat → List D) (h : get s.H id = some (.bld T .nils))
    (k : Go C K ⟨s.L, (id, .bld T (.own s.m)) :: delH id ((s.m, .vec e sz 0 f) :: s.H), s.m + 1⟩ Φ) : Go C K s Φ := by
  rintro a w ⟨ρ, F, hs⟩
  have hm0 : Mod none w w := ⟨rfl, rfl, rfl, Nat.le_refl _, fun _ _ _ => rfl⟩
  have hmem := get_mem h
  have hlt := (hs.freshH _ _ hmem).1
  have h1 := hs.new hm0 (x := .slice none 0 0) (fun b hb => by simp [blk] at hb) (c := .vec e sz 0 f) ⟨[], by rw [upd_same]; exact ⟨by simp, .inl ⟨rfl, rfl⟩⟩, fun i hi => absurd hi (Nat.not_lt_zero _)⟩ rfl
  have hmem1 : (id, Ch.bld T .nils) ∈ ((s.m, Ch.vec e sz 0 f) :: s.H) := List.mem_cons_of_mem _ hmem
  obtain ⟨b, p, x, e1, e2, e3, e4⟩ := h1.ch id _ hmem1
  have e4 : x = .slice none 0 0 := e4
  have hown : R1 (upd ρ s.m (.slice none 0 0)) F w (.own s.m) x := ⟨by rw [upd_same]; exact e4, by rw [upd_same]; exact .inl ⟨_, _, _, rfl⟩⟩
  have h2 := h1.touch hmem1 (c' := .bld T (.own s.m)) ⟨rfl, rfl, rfl, Nat.le_refl _, fun _ _ _ => rfl⟩ ⟨b, p, x, e1, e2, e3, hown⟩ (by show Nat.blt s.m (s.m + 1) = true; simp)
  exact k a w ⟨_, F, h2⟩
end Go.Sx

/-
  Sx, part 50: package-level tables whose cells are known for good, without a guard.
-/
set_option linter.unusedVariables false
set_option linter.unusedSimpArgs false
namespace Go.Sx

def globInfo0 (g : Cfg) (s : St) (o : Oper) : Option (Nat × Nat × Int × Nat) :=
  match o.guard, o.dst, o.op with
  | none, some d, .indexAddr t (.global gl) ix => match ev s.L [] ix, lk g t with
      | some (.d (.int _ n)), some ti => match ti.kind with
        | .array N e => bif isz g e 1 && Nat.blt d g.n then some (gl, N, n, d) else none
        | _ => none
      | _, _ => none
  | _, _, _ => none

/-- A cell of a table. -/
theorem Cr.glob {P : Pg} {g : Cfg} {C : Ctx} (x : Cr P g C) {s s' : St} {K K' : List Item} {Φ : Exit → St → Prop} {ob : List Prop} (tab : Nat → D) {all : Array Oper} {o : Oper} {rest : List Oper} {gl N d : Nat} {n : Int} (h : run g 1000 K s [] = .op ob all o rest K' s') (ho : AllP ob)
    (hi : globInfo0 g s' o = some (gl, N, n, d)) (hE : GlobAt P.env gl N tab) (hb : 0 ≤ n ∧ n < (N : Int)) (k : Go C (.ops all rest :: K') { s' with L := put s'.L d (.eptr [tab n.toNat]) } Φ) : Go C K s Φ := by
  refine st x.ty x.n x.fix h ⟨ho, ?_⟩
  rintro a w ⟨ρ, F, hs⟩
  have hg := x.ty
  unfold globInfo0 at hi
  split at hi
  · rename_i d' t gl' ix hgd hd hop
    split at hi
    · rename_i kk n' ti hix hti
      split at hi
      · rename_i N' e hkind
        cases hc : (isz g e 1 && Nat.blt d' g.n) with
        | false => rw [hc] at hi; simp at hi
        | true =>
          rw [hc] at hi
          simp only [cond_true, Option.some.injEq, Prod.mk.injEq] at hi
          obtain ⟨rfl, rfl, rfl, rfl⟩ := hi
          simp only [Bool.and_eq_true] at hc
          obtain ⟨b0, b1⟩ := hc
          show wqList C.rd C.P all (den C (conc C Φ) K') (o :: rest) a w
          refine wqList_plain hgd fun M hM => ?_
          obtain ⟨h0, h1⟩ := hb
          obtain ⟨f, hf, hlit⟩ := hE
          have henv : EnvOK P.env F w := by have := hs.env; rwa [show C.env = P.env from congrArg Pg.env x.prog] at this
          obtain ⟨hF, hcell, _⟩ := henv _ _ _ hf
          have hiv := (ev_sound hs (pc_nil _) hix).1
          generalize hex : a.eval ix = vx at hiv
          cases (show RD F w _ _ from hiv)
          have hu := (lk_ok hg hti).und
          rw [hkind] at hu
          have hrun : (execOp a.eval o).run C.P w = .ok (.value (.pointer (some ⟨gl', n'.toNat, none⟩))) w := by
            unfold execOp
            rw [hop]
            refine run_v ?_
            simp [Act.eval, hex] at hex ⊢
            simp [hex, Instr.indexAt, Instr.sureAddr, asIntOf, run_und (show C.P.underlying t = some (.array N' e) from hu), h0, h1, isz_sound hg b0, Addr.add_lit]
          refine wqO_of hrun trivial ?_
          refine hM _ _ ?_
          rw [hd]
          refine k _ _ ⟨ρ, F, hs.putS (by rw [← x.n]; simpa using b1) (show RS _ ρ F w (.eptr _) _ from ⟨gl', n'.toNat, fun _ => f n'.toNat, rfl, hF, fun i dd hi => ?_⟩) rfl⟩
          cases i with
          | succ i => simp at hi
          | zero =>
            simp only [List.getElem?_cons_zero, Option.some.injEq] at hi
            subst hi
            exact ⟨hcell n'.toNat (by omega), litV_RD (hlit n'.toNat (by omega))⟩
      · simp at hi
    · simp at hi
  · simp at hi
end Go.Sx

/-
  Sx, part 51: data that say the same, one in the other's place.
-/
set_option linter.unusedVariables false
set_option linter.unusedSimpArgs false
namespace Go.Sx

theorem put_self {a : Act} {t : Nat} {x : Value} (h : a.tmps[t]? = some x) : a.put (some t) x = a := by
  have : a.tmps.setIfInBounds t x = a.tmps := by
    obtain ⟨hi, e⟩ := Array.getElem?_eq_some_iff.1 h
    subst e
    refine Array.ext_getElem? fun i => ?_
    rw [Array.getElem?_setIfInBounds]
    by_cases e : t = i
    · subst e
      rw [if_pos rfl, if_pos hi, Array.getElem?_eq_getElem hi]
    · rw [if_neg e]
  show { a with tmps := a.tmps.setIfInBounds t x } = a
  rw [this]
/-- A slot's data, said in another way. -/
theorem Go.dq {C : Ctx} {s : St} {K : List Item} {Φ : Exit → St → Prop} (t : Nat) {d : D} (d' : D) (h : get s.L t = some (.d d)) (q : DQ d d') (k : Go C K { s with L := put s.L t (.d d') } Φ) : Go C K s Φ := by
  rintro a w ⟨ρ, F, hs⟩
  obtain ⟨x, hx, hr⟩ := hs.slot t _ (get_mem h)
  have hlt : t < C.n := by rw [← hs.size]; exact (Array.getElem?_eq_some_iff.1 hx).1
  have h2 := hs.put (d := t) (v := .d d') (x := x) hlt (show RD F w d' x from q.sound hr) rfl
  rw [put_self hx] at h2
  exact k a w ⟨ρ, F, h2⟩
theorem DQ.one {z : Nat} {f f' : Nat → List D} (hl : (f 0).length = (f' 0).length) (h : ∀ (j : Nat) (d d' : D), (f 0)[j]? = some d → (f' 0)[j]? = some d' → DQ d d') : DQ (.sl z 1 f) (.sl z 1 f') :=
  .sl z 1 f f' (fun i hi => by obtain rfl : i = 0 := by omega
                               exact hl) (fun i j d d' hi h1 h2 => by obtain rfl : i = 0 := by omega
                                                                      exact h j d d' h1 h2)
end Go.Sx

/-
  Sx, part 52: ranges over functions; drawn statements in a round's frame.
-/
set_option linter.unusedVariables false
set_option linter.unusedSimpArgs false
namespace Go.Sx

/-! ### drawn statements in a round's frame -/
def NoOut (Φ : Exit → St → Prop) : Prop := ∀ s, ¬ Φ .outgrown s
theorem den_out {C : Ctx} {Q : Exit → Act → World → Prop} (hQ : ∀ a w, ¬ Q .outgrown a w) : ∀ (K : List Item) (a : Act) (w : World), ¬ den C Q K .outgrown a w
  | [], a, w, h => hQ a w h
  | .code _ :: K, a, w, h => den_out hQ K a w h
  | .ops _ _ :: K, a, w, h => den_out hQ K a w h
  | .blk _ :: K, a, w, h => den_out hQ K a w h
  | .back _ :: K, a, w, h => den_out hQ K a w h
theorem noOut_den {C : Ctx} {Φ : Exit → St → Prop} (h : NoOut Φ) (K : List Item) : ¬ LetsOut (den C (conc C Φ) K) := fun ⟨a, w, hd⟩ => den_out (fun a w ⟨s, _, hs⟩ => h s hs) K a w hd

namespace Cr
variable {P : Pg} {g : Cfg} {C : Ctx} (x : Cr P g C) {s s' : St} {K K' : List Item} {Φ : Exit → St → Prop} {ob : List Prop}
include x
/-- `quiet` in any frame. -/
theorem rquiet {id : Nat} {ops : Array Oper} (h : run g 1000 K s [] = .code ob (.region id ops true) K' s') (ho : AllP ob) (hm : P.P.follows .mixedOrders = true) (hB : (Region.lexB .any ops && noDefer ops) = true) (hΦ : NoOut Φ)
    (k : QGo C ops ops.toList s' K' Φ) : Go C K s Φ := by
  refine st x.ty x.n x.fix h ⟨ho, ?_⟩
  rintro a w ⟨ρ, F, hs⟩
  simp only [Bool.and_eq_true] at hB
  obtain ⟨hB, hnd⟩ := hB
  simp only [Region.lexB, Bool.and_eq_true] at hB
  refine wq_region_any (x.progP.symm ▸ hm) hnd (noOut_den hΦ K') ?_
  refine wpAny_of_quiet (C := Mod none w) (Q := fun a' => ∀ w', Mod none w w' → den C (conc C Φ) K' .normal a' w') (fun _ w' hw' h => h w' hw') _ _ _ _ (⟨rfl, rfl, rfl, Nat.le_refl _, fun _ _ _ => rfl⟩ : Mod none w { w with drawn := w.drawn + 1 }) ?_
  have := wpAnyQ_lex (C := Mod none w) (md := .any) hB.1 ops.toList 0 (Array.replicate ops.size false) a (by simp) (by simpa using hB.2) (k a w ρ F hs)
  simpa using this
/-- `plan` in any frame. -/
theorem rplan (A B T : List Nat) {id : Nat} {ops : Array Oper} (h : run g 1000 K s [] = .code ob (.region id ops true) K' s') (ho : AllP ob) (hm : P.P.follows .mixedOrders = true) (hB : (planB .any ops A B T && noDefer ops) = true) (hΦ : NoPanic Φ) (hΦ' : NoOut Φ)
    (k : QGo C ops (pickL ops.toList (app3 A B)) s' (.ops ops (pickL ops.toList T) :: K') Φ) : Go C K s Φ := by
  refine st x.ty x.n x.fix h ⟨ho, ?_⟩
  rintro a w ⟨ρ, F, hs⟩
  simp only [Bool.and_eq_true] at hB
  obtain ⟨hB, hnd⟩ := hB
  have hd : Mod none w { w with drawn := w.drawn + 1 } := ⟨rfl, rfl, rfl, Nat.le_refl _, fun _ _ _ => rfl⟩
  have hpk : pickL ops.toList (app3 A B) = pickL ops.toList A ++ pickL ops.toList B := by
    rw [app3_eq]
    clear k hB
    induction A with
    | nil => rfl
    | cons i r ih =>
      simp only [List.cons_append, pickL]
      split <;> simp [ih]
  rw [hpk] at k
  exact wq_region_any (x.progP.symm ▸ hm) hnd (noOut_den hΦ' K') (wpAny_plan (C := Mod none w) hB (den_panic (fun c a w ⟨s, _, hh⟩ => hΦ c s hh) K') hd (wpQuiet_mono (fun a h w' hw' => (h w' hw').1) (k a w ρ F hs)))
end Cr

/-! ### frames of rounds -/
def plainO : Obj → Bool
  | .loop _ => false
  | .deferred _ => false
  | _ => true

section
variable {C : Ctx} {s : St} {a : Act} {w w' : World} {ρ : Nat → Value} {F : Nat → Prop} {g : Cfg}

theorem ChOK.obj {id : Nat} {c : Ch} (h : ChOK ρ F w id c) {b : Nat} (hb : bks ρ id c b) : ∃ o, w.heap[b]? = some o ∧ plainO o = true := by
  have own : ∀ {e : TypeId} {sz n : Nat} {v : Value} {xs : List Value}, w.ownsRow 0 e sz v n xs → blk v = some b → ∃ o, w.heap[b]? = some o ∧ plainO o = true := fun h1 hb => by
    rcases h1.2 with ⟨h2, _⟩ | ⟨g, cap, cur, h2, _, h4, _⟩
    · rw [h2] at hb; simp [blk] at hb
    · rw [h2] at hb; simp [blk] at hb; subst hb; exact ⟨_, h4, rfl⟩
  cases c with
  | box us => obtain ⟨b', cs, T, h1, h2, _⟩ := h; change blk (ρ id) = some b at hb; rw [h1] at hb; simp [blk] at hb; subst hb; exact ⟨_, h2, rfl⟩
  | arr sz n f => obtain ⟨b', cs, T, h1, h2, _⟩ := h; change blk (ρ id) = some b at hb; rw [h1] at hb; simp [blk] at hb; subst hb; exact ⟨_, h2, rfl⟩
  | iter s pos => obtain ⟨b', h1, h2⟩ := h; change blk (ρ id) = some b at hb; rw [h1] at hb; simp [blk] at hb; subst hb; exact ⟨_, h2, rfl⟩
  | bld T u => obtain ⟨b', p, x, h1, h2, _⟩ := h; change blk (ρ id) = some b at hb; rw [h1] at hb; simp [blk] at hb; subst hb; exact ⟨_, h2, rfl⟩
  | tbl es => obtain ⟨b', arr, clock, h1, h2, _⟩ := h; change blk (ρ id) = some b at hb; rw [h1] at hb; simp [blk] at hb; subst hb; exact ⟨_, h2, rfl⟩
  | vec e sz n f =>
    obtain ⟨xs, h1, _⟩ := h
    exact own h1 hb
  | rows e e' sz n hole hs m f =>
    obtain ⟨xs, h1, h2, _⟩ := h
    rcases hb with hb | ⟨k, hk, hh, hb⟩
    · exact own h1 hb
    · obtain ⟨_, ys, h3, _⟩ := h2 k hk hh
      exact own h3 hb
  | held e e' sz n i u hs m f =>
    obtain ⟨xs, h1, _, h2, _⟩ := h
    rcases hb with hb | ⟨k, hk, hh, hb⟩
    · exact own h1 hb
    · obtain ⟨_, ys, h3, _⟩ := h2 k hk hh
      exact own h3 hb

def allBlocks (ρ : Nat → Value) (H : List (Nat × Ch)) : Nat → Prop := fun b => ∃ i c, (i, c) ∈ H ∧ bks ρ i c b
def Ctx.inR (C : Ctx) (l fx : Nat) (s : St) (w : World) (ρ : Nat → Value) (F : Nat → Prop) : Ctx :=
  { C with w0 := w, E := allBlocks ρ s.H, F0 := F, ρ0 := ρ, fix := fx, defs := [], rd := some l, mks := false }

theorem SatW.enterR (h : SatW C s a w ρ F) (l : Nat) {fx : Nat} (hfx : fx ≤ s.m) {L' : List (Nat × V)} {a' : Act} (hn : a'.tmps.size = C.n) (hd : a'.defers = []) (hs : ∀ t v, (t, v) ∈ L' → ∃ x, a'.tmps[t]? = some x ∧ RS a'.tmps ρ F w v x) (hf : ∀ t v, (t, v) ∈ L' → v.all4 (fresh s.m) = true) :
    SatW (C.inR l fx s w ρ F) ⟨L', s.H, s.m⟩ a' w ρ F where
  size := hn
  defers := .start hd
  slot := hs
  ch := h.ch
  sep := h.sep
  out := h.out
  freshL := hf
  freshH := h.freshH
  lt := h.lt
  mine i c b hi e := .inr ⟨i, c, hi, e⟩
  sub k hk := .inl hk
  base k hk := hk
  fixd := ⟨hfx, fun _ _ => rfl⟩
  keep := ⟨rfl, rfl, rfl, Nat.le_refl _, fun _ _ _ => rfl⟩
  env := h.env

theorem SatW.leaveR (h : SatW C s a w ρ F) {l fx : Nat} (hfx : C.fix ≤ fx) (hL : ∀ t v, (t, v) ∈ s.L → v.all4 (fresh fx) = true) {s1 : St} {a1 : Act} {w1 : World} {ρ1 : Nat → Value} {F1 : Nat → Prop} (h1 : SatW (C.inR l fx s w ρ F) s1 a1 w1 ρ1 F1) :
    SatW C ⟨s.L, s1.H, s1.m⟩ a w1 ρ1 F1 := by
  have hm : fx ≤ s1.m := h1.fixd.1
  have hρ : ∀ i, i < fx → ρ1 i = ρ i := h1.fixd.2
  have hE : ∀ b, allBlocks ρ s.H b → C.w0.heap.size ≤ b ∨ C.E b := fun b ⟨i, c, hi, e⟩ => h.mine i c b hi e
  have hFw : ∀ k, F k → w1.heap[k]? = w.heap[k]? := fun k hk => h1.keep.block k (h.lt k hk) fun ⟨i, c, hi, e⟩ => h.out i c k hi e hk
  have hk0 : ∀ (u : V) (v : Value), fresh fx u = true → R0 ρ F w u v → R0 ρ1 F1 w1 u v := fun u v hu hr => by
    have := R0.killIn (xs := []) (m := fx) (ρ' := ρ1) (F' := F1) (w' := w1) (fun i hi _ => hρ i hi) (fun k hk => h1.base k hk) hFw hu hr
    rwa [show killIn [] u = u by cases u <;> rfl] at this
  have h3 : ∀ (u : V) (v : Value), u.all3 (fresh fx) = true → R3 ρ F w u v → R3 ρ1 F1 w1 u v := fun u v hu hr => by
    have := R3.map (k := fun u => u) hk0 hu hr
    rwa [map3_id] at this
  exact
    { size := h.size, defers := h.defers.mono h1.base hFw, ch := h1.ch, sep := h1.sep, out := h1.out, freshH := h1.freshH, lt := h1.lt, env := h1.env
      slot := fun t v hv => by
        obtain ⟨x, hx, hr⟩ := h.slot t v hv
        refine ⟨x, hx, ?_⟩
        have hf := hL t v hv
        by_cases hg : ∃ p y, v = .g p y
        · obtain ⟨p, y, rfl⟩ := hg
          exact ⟨fun hp => h3 _ _ hf (hr.1 hp), hr.2⟩
        · have h0 : R3 ρ F w v x := by cases v <;> first | exact hr | exact (hg ⟨_, _, rfl⟩).elim
          have hf' : v.all3 (fresh fx) = true := by cases v <;> first | exact hf | exact (hg ⟨_, _, rfl⟩).elim
          exact RS_of (h3 _ _ hf' h0)
      freshL := fun t v hv => all4_imp (fun u hu => fresh_mono hm hu) (hL t v hv)
      mine := fun i c b hi e => by
        rcases h1.mine i c b hi e with h5 | h5
        · exact .inl (Nat.le_trans h.keep.size h5)
        · exact hE b h5
      sub := fun k hk => by
        rcases h1.sub k hk with h5 | h5 | h5
        · exact h.sub k h5
        · exact .inr (.inl (Nat.le_trans h.keep.size h5))
        · exact .inr (hE k h5)
      base := fun k hk => h1.base k (h.base k hk)
      fixd := ⟨Nat.le_trans hfx hm, fun i hi => by rw [hρ i (Nat.lt_of_lt_of_le hi hfx)]; exact h.fixd.2 i hi⟩
      keep := ⟨h1.keep.os.trans h.keep.os, h1.keep.tape.trans h.keep.tape, h1.keep.output.trans h.keep.output, Nat.le_trans h.keep.size h1.keep.size, fun k hk hne => by
        refine (h1.keep.block k (Nat.lt_of_lt_of_le hk h.keep.size) fun hb => ?_).trans (h.keep.block k hk hne)
        rcases hE k hb with h5 | h5
        · omega
        · exact hne h5⟩ }

/-- The loop's record has turned. -/
theorem putLoop_cell {l : Nat} {r : Loop} {o : Obj} (hl : w.heap[l]? = some (.loop r)) (k : Nat) (f : Nat) (v : Value) (hc : w.cell? ⟨k, f, none⟩ = some v) : (w.putObj l o).cell? ⟨k, f, none⟩ = some v := by
  by_cases e : k = l
  · subst e
    unfold World.cell? at hc
    rw [hl] at hc
    simp at hc
  · rw [← hc]; exact World.cell?_of_block (w := w) (World.putObj_heap_other e)
theorem SatW.putLoop (h : SatW C s a w ρ F) {l : Nat} {r : Loop} (hl : w.heap[l]? = some (.loop r)) (hlo : C.w0.heap.size ≤ l) (o : Obj) : SatW C s a (w.putObj l o) ρ F := by
  have hw : ∀ k f v, F k → w.cell? ⟨k, f, none⟩ = some v → (w.putObj l o).cell? ⟨k, f, none⟩ = some v := fun k f v _ hc => putLoop_cell hl k f v hc
  have hb : ∀ i c, (i, c) ∈ s.H → ∀ b, bks ρ i c b → (w.putObj l o).heap[b]? = w.heap[b]? := fun i c hi b e => World.putObj_heap_other fun e2 => by
    subst e2
    obtain ⟨o', h1, h2⟩ := (h.ch i c hi).obj e
    rw [hl] at h1
    obtain rfl := Option.some.inj h1
    cases h2
  exact
    { size := h.size, sep := h.sep, out := h.out, freshL := h.freshL, freshH := h.freshH, mine := h.mine, sub := h.sub, base := h.base, fixd := h.fixd
      slot := fun t v hv => let ⟨x, hx, hr⟩ := h.slot t v hv; ⟨x, hx, RS.mono' hw hr⟩
      ch := fun i c hi => ChOK.mono' hw (hb i c hi) (h.ch i c hi)
      lt := fun k hk => by rw [World.putObj_size]; exact h.lt k hk
      env := fun g n f hm => ⟨(h.env g n f hm).1, fun j hj => hw _ _ _ (h.env g n f hm).1 ((h.env g n f hm).2.1 j hj), fun h0 => let ⟨m, hm'⟩ := (h.env g n f hm).2.2 h0; ⟨m, hw _ _ _ (h.env g n f hm).1 hm'⟩⟩
      keep := ⟨h.keep.os, h.keep.tape, h.keep.output, by rw [World.putObj_size]; exact h.keep.size, fun k hk he => (World.putObj_heap_other (by omega)).trans (h.keep.block k hk he)⟩
      defers := by
        obtain ⟨ms, m1, m2, m3, m4⟩ := h.defers
        refine ⟨ms, m1, m2, m3, fun D hD => ?_⟩
        obtain ⟨k1, k2, k3⟩ := m4 D hD
        refine ⟨k1, k2, (World.putObj_heap_other fun e => ?_).trans k3⟩
        subst e
        rw [hl] at k3
        cases k3 }

/-- A block more that nobody writes. -/
theorem SatW.addF (h : SatW C s a w ρ F) {D : Nat} (hD : D < w.heap.size) (hlo : C.w0.heap.size ≤ D) (hn : ∀ i c, (i, c) ∈ s.H → ¬ bks ρ i c D) : SatW C s a w ρ (fun k => F k ∨ k = D) := by
  refine h.change (fun u => u) (fun u v hu hr => hr.keep (x := s.m) (fun _ _ => rfl) (fun _ => .inl) (fun _ _ => rfl) (fresh_names (Nat.le_refl _) hu)) (fun t v hv => ⟨⟨v, hv, (map4_id v).symm⟩, h.freshL t v hv⟩) (fun i c hc => ?_) (fun _ => .inl) (fun _ _ => rfl) (fun k hk => ?_) h.keep (Nat.le_refl _) (fun k hk => ?_) h.fixd.2
  · refine ⟨⟨c, hc, (chmap_id c).symm⟩, (h.freshH i c hc).2, rfl, fun b e => ⟨rfl, ?_⟩⟩
    rintro (e2 | rfl)
    · exact h.out i c b hc e e2
    · exact hn i c hc e
  · rcases hk with hk | rfl
    · exact h.lt k hk
    · exact hD
  · rcases hk with hk | rfl
    · exact h.sub k hk
    · exact .inr (.inl hlo)

/-- Chunks of which one wants to know no more. -/
theorem SatW.shrink {L : List (Nat × V)} {H1 H' : List (Nat × Ch)} {m m1 : Nat} (h : SatW C ⟨L, H1, m1⟩ a w ρ F) (hH : HLE H1 H') (hok : okH m H' = true) (hL : ∀ t v, (t, v) ∈ L → v.all4 (fresh m) = true) (hm : C.fix ≤ m) : SatW C ⟨L, H', m⟩ a w ρ F :=
  { size := h.size, defers := h.defers, slot := h.slot, freshL := hL, lt := h.lt, sub := h.sub, base := h.base, fixd := ⟨hm, h.fixd.2⟩, keep := h.keep, env := h.env
    ch := fun i c hc => by
      obtain ⟨u, hu, he⟩ := HLE_mem hH hc
      exact ChEq_sound he (h.ch i u hu)
    sep := fun i j ci cj b hi hj hij e => by
      obtain ⟨u, hu, he⟩ := HLE_mem hH hi
      obtain ⟨u2, hu2, he2⟩ := HLE_mem hH hj
      exact fun e2 => h.sep i j u u2 b hu hu2 hij (ChEq_bks he e) (ChEq_bks he2 e2)
    out := fun i c b hi e => by
      obtain ⟨u, hu, he⟩ := HLE_mem hH hi
      exact h.out i u b hu (ChEq_bks he e)
    freshH := fun i c hi => okH_mem hok hi
    mine := fun i c b hi e => by
      obtain ⟨u, hu, he⟩ := HLE_mem hH hi
      exact h.mine i u b hu (ChEq_bks he e) }

/-! ### iterators -/
/-- **WHAT AN ITERATOR GIVES**: the elements xs, one after the other, until yield says 'no more'; it writes nothing that was there. -/
def Its (P : Pg) (f : FuncId) (caps : List V) (H : List Ch) (xs : List (List V)) : Prop :=
  Callable P.P f ∧ freshAll caps H H.length = true ∧ (∀ x ∈ xs, x.all (V.all3 (fresh 0)) = true) ∧
  ∀ (w : World) (F : Nat → Prop) (ρ : Nat → Value) (cs : List Value), (∀ k, F k → k < w.heap.size) → EnvOK P.env F w → Holds ρ F w H → All2 (R3 ρ F w) caps cs →
    ∀ (l : Nat) (J Jx : Nat → World → Prop),
      (∀ k W W', J k W → Mod none W W' → J k W') → (∀ k W, J k W → (∃ F', EnvOK P.env F' W ∧ (∀ k, F' k → k < W.heap.size)) ∧ ∀ b, F b → W.heap[b]? = w.heap[b]?) → J 0 w →
      (∀ k x W1 vals, xs[k]? = some x → J k W1 → All2 (R3 ρ F W1) x vals → YieldAt Fence.wide 7 P.P l vals.toArray W1 fun e W' => (e = .returned (.bool true) ∧ J (k + 1) W') ∨ (e = .returned (.bool false) ∧ Jx k W')) →
      CallsIn Fence.wide 8 P.P f (#[.func (.yield l) #[] #[]] ++ cs.toArray) w fun e W' => (∃ v, e = .returned v) ∧ (J xs.length W' ∨ ∃ k, k < xs.length ∧ Jx k W')

/-- How a round's body may be left. -/
def RoundR (p : Prop) (J : List (Nat × Ch)) (X : Code → List (Nat × Ch) → Prop) : Exit → St → Prop
  | .normal, s => p ∧ HLE s.H J
  | .ret, s => ∃ H, X .ret H ∧ HLE s.H H
  | .exit id, s => ∃ H, X (.exit id) H ∧ HLE s.H H
  | .goto l, s => ∃ H, X (.goto l) H ∧ HLE s.H H
  | _, _ => False
theorem RoundR.noOut {p : Prop} {J : List (Nat × Ch)} {X : Code → List (Nat × Ch) → Prop} : NoOut (RoundR p J X) := fun _ h => h
theorem RoundR.noPanic {p : Prop} {J : List (Nat × Ch)} {X : Code → List (Nat × Ch) → Prop} : NoPanic (RoundR p J X) := fun _ _ h => h

def putP (L : List (Nat × V)) : List Nat → List V → List (Nat × V)
  | p :: ps, v :: vs => putP (put L p v) ps vs
  | _, _ => L

theorem sat_putP {m : Nat} {H : List (Nat × Ch)} : ∀ (ps : List Nat) (x : List V) (vals : List Value) (L : List (Nat × V)) (a : Act), SatW C ⟨L, H, m⟩ a w ρ F → ps.all (fun p => Nat.blt p C.n) = true → x.length = ps.length → All2 (R3 ρ F w) x vals → x.all (V.all3 (fresh 0)) = true →
    SatW C ⟨putP L ps x, H, m⟩ { a with tmps := (ps.zip vals).foldl (fun t q => t.setIfInBounds q.1 q.2) a.tmps } w ρ F
  | [], [], [], L, a, h, _, _, _, _ => h
  | p :: ps, v :: x, y :: vals, L, a, h, hp, hl, hr, hf => by
    simp only [List.all_cons, Bool.and_eq_true] at hp hf
    have h1 := h.put (d := p) (v := v) (x := y) (by simpa using hp.1) hr.1 (all3_imp (fun u hu => fresh_mono (Nat.zero_le _) hu) hf.1)
    exact sat_putP ps x vals _ _ h1 hp.2 (by simpa using hl) hr.2 hf.2
  | [], _ :: _, _, _, _, _, _, hl, _, _ => by simp at hl
  | _ :: _, [], _, _, _, _, _, hl, _, _ => by simp at hl
  | [], [], _ :: _, _, _, _, _, _, hr, _ => hr.elim
  | _ :: _, _ :: _, [], _, _, _, _, _, hr, _ => hr.elim
end

theorem callFunc_run {P : Program} {f : FuncId} (hcall : Callable P f) (args : Array Value) (w : World) : (callFunc f args).run P w = .ok (.enter f args) w := by
  obtain ⟨fn, h1, h2, h3⟩ := hcall
  have hb : fn.body.isNone = false := by cases hh : fn.body <;> simp_all
  simp only [callFunc, program, Sem.run_bind, Sem.run_pure, Result.andThen]
  simp [Sem.run, h1, h3, hb]

section
variable {C : Ctx} {s : St} {K : List Item} {Φ : Exit → St → Prop} {g : Cfg}

theorem Go.range {fx : Nat} (hfxx : fx = s.m ∨ (Nat.ble C.fix fx && Nat.ble fx s.m && s.L.all fun q => q.2.all4 (fresh fx)) = true) (hrd : C.rd = none) (hmk : C.mks = true ∧ C.lo ≤ C.w0.heap.size) {gop : Operand} {ps : List Tmp} {assign body : Code} {f : FuncId} {caps A : List V} {H : List Ch} {xs : List (List V)} (is : List Nat)
    (hev : ev s.L [] gop = some (.fn f A)) (hseq : Its C.pg f caps H xs) (hA : AEq A (caps.map (V.map3 (ren0 is)))) (hok : (nodupB is && Nat.beq is.length H.length && ps.all fun p => Nat.blt p C.n) = true) (hH : HLE s.H (rnH is is H))
    (hps : ∀ x ∈ xs, x.length = ps.length) (P : Nat → Prop) (J : Nat → List (Nat × Ch)) (X : Nat → Code → List (Nat × Ch) → Prop)
    (hJ : ∀ k, okH s.m (J k) = true) (hX : ∀ k c H', X k c H' → okH s.m H' = true) (hP : P 0) (h0 : HLE s.H (J 0))
    (hb : ∀ k x l, xs[k]? = some x → P k → ∀ C1 : Ctx, C1.pg = C.pg → C1.n = C.n → C1.fix = fx → C1.rd = some l → Go C1 [.code assign] ⟨putP s.L ps x, J k, s.m⟩ fun e s1 => e = .normal ∧
      ∀ C2 : Ctx, C2.pg = C.pg → C2.n = C.n → C2.fix = fx → C2.rd = some l → Go C2 [.code body] s1 (RoundR (P (k + 1)) (J (k + 1)) (X k)))
    (k1 : P xs.length → Go C K ⟨s.L, J xs.length, s.m⟩ Φ) (k2 : ∀ k c H', k < xs.length → P k → X k c H' → Go C (.code c :: K) ⟨s.L, H', s.m⟩ Φ) : Go C (.code (.rangeFunc gop ps.toArray assign body) :: K) s Φ := by
  rintro a w ⟨ρ, F, hs⟩
  obtain ⟨hcall, hfr, hfx, hseq⟩ := hseq
  simp only [Bool.and_eq_true] at hok
  obtain ⟨⟨o1, o2⟩, o3⟩ := hok
  have o2 := Nat.eq_of_beq_eq_true o2
  have hm0 : C.fix ≤ s.m := hs.fixd.1
  obtain ⟨hx1, hx2, hx3⟩ : C.fix ≤ fx ∧ fx ≤ s.m ∧ ∀ t v, (t, v) ∈ s.L → v.all4 (fresh fx) = true := by
    rcases hfxx with rfl | hfxx
    · exact ⟨hm0, Nat.le_refl _, hs.freshL⟩
    · simp only [Bool.and_eq_true, List.all_eq_true] at hfxx
      exact ⟨Nat.le_of_ble_eq_true hfxx.1.1, Nat.le_of_ble_eq_true hfxx.1.2, fun t v hv => hfxx.2 (t, v) hv⟩
  rw [den_code, hrd]
  show Code.wpIn (fr none) 9 C.P _ _ a w
  rw [fr_none]
  refine wpIn_rangeFunc fun fn hfn => ?_
  obtain ⟨rec, hrec⟩ : ∃ rec : LoopState → Option Code → Loop, rec = fun st pe => { state := st, pending := pe, fn, tmps := a.tmps, params := ps.toArray, assign, body, defers := w.heap.size } := ⟨_, rfl⟩
  obtain ⟨D, hDw⟩ : ∃ D, D = w.heap.size := ⟨_, rfl⟩
  obtain ⟨l, hlw⟩ : ∃ l, l = w.heap.size + 1 := ⟨_, rfl⟩
  obtain ⟨W1, hW1⟩ : ∃ W1, (w.alloc (.deferred (some []))).alloc (.loop (rec .ready none)) = W1 := ⟨_, rfl⟩
  have hL1 : W1.heap[l]? = some (.loop (rec .ready none)) := by
    rw [← hW1, hlw]; have := World.alloc_heap_new (w.alloc (.deferred (some []))) (.loop (rec .ready none)); rwa [World.size_alloc] at this
  have hK1 : W1.heap[D]? = some (.deferred (some [])) := by
    rw [← hW1, hDw]; exact ((Mod.alloc _ _).block _ (by simp) (by simp)).trans (World.alloc_heap_new w _)
  have hM : Mod none w W1 := by rw [← hW1]; exact (Mod.alloc w _).trans (Mod.alloc _ _)
  have hsz : W1.heap.size = w.heap.size + 2 := by rw [← hW1]; simp
  have hDl : D ≠ l := by omega
  have hlo : C.w0.heap.size ≤ D := by rw [hDw]; exact hs.keep.size
  have hlo' : C.w0.heap.size ≤ l := by omega
  have hs1 : SatW C s a W1 ρ (fun k => F k ∨ k = D) := (hs.mod hM).addF (by omega) hlo fun i c hi e => by
    obtain ⟨o', h1, h2⟩ := ((hs.mod hM).ch i c hi).obj e
    rw [hK1] at h1
    obtain rfl := Option.some.inj h1
    cases h2
  obtain ⟨F1, hF1⟩ : ∃ F1 : Nat → Prop, F1 = fun k => F k ∨ k = D := ⟨_, rfl⟩
  rw [← hF1] at hs1
  have hev1 := (ev_sound hs1 (pc_nil _) hev).1
  obtain ⟨cs, hcs, hcaps⟩ := (show R1 ρ F1 W1 (.fn f A) _ from hev1)
  have hold := holds_of hs1 hfr o2 o1 hH
  have hcaps3 : All2 (R3 ρ F1 W1) A cs := hcaps.mono fun u v hr => R3_of (R2_of (R1_of hr))
  have hfr2 := hfr
  simp only [freshAll, Bool.and_eq_true, List.all_eq_true] at hfr2
  have hcapsR : All2 (R3 (fun i => ρ (nth is i)) F1 W1) caps cs := (AEq_sound hA hcaps3).unmap fun u v hu hr => R3.unren (k := H.length) (fun _ _ => rfl) (hfr2.1 u hu) hr
  have hFlt : ∀ b, F1 b → b < W1.heap.size := hs1.lt
  refine ⟨l, [markOf D], W1, { target := .fn (.func f) cs.toArray, args := #[.func (.yield l) #[] #[]] }, W1, f, #[.func (.yield l) #[] #[]] ++ cs.toArray, W1, ?_, ?_, fun _ _ => trivial, ?_, fun h => (by cases h), ?_⟩
  · rw [← hW1, hrec, hDw, hlw]; exact run_enterLoop_outer _ _ _ _ _
  · simp only [resolve, hcs]
    simp [go_sem]
  · simp [invoke, go_sem, callFunc_run hcall]
  refine (hseq W1 F1 (fun i => ρ (nth is i)) cs hFlt hs1.env hold hcapsR l
    (fun k W => P k ∧ ∃ ρ' F', SatW C ⟨s.L, J k, s.m⟩ a W ρ' F' ∧ (∀ b, F1 b → F' b ∧ W.heap[b]? = W1.heap[b]?) ∧ W.heap[l]? = some (.loop (rec .ready none)))
    (fun k W => ∃ c H' ρ' F', (P k ∧ X k c H') ∧ SatW C ⟨s.L, H', s.m⟩ a W ρ' F' ∧ (∀ b, F1 b → F' b ∧ W.heap[b]? = W1.heap[b]?) ∧ W.heap[l]? = some (.loop (rec .done (some c))))
    ?_ ?_ ?_ ?_).mono ?_
  · rintro k W W' ⟨hPk, ρ', F', h1, h2, h3⟩ hm
    refine ⟨hPk, ρ', F', h1.mod hm, fun b hb => ⟨(h2 b hb).1, (hm.block b (h1.lt b (h2 b hb).1) (by simp)).trans (h2 b hb).2⟩, (hm.block l (Array.getElem?_eq_some_iff.1 h3).1 (by simp)).trans h3⟩
  · rintro k W ⟨hPk, ρ', F', h1, h2, h3⟩
    exact ⟨⟨F', h1.env, h1.lt⟩, fun b hb => (h2 b hb).2⟩
  · exact ⟨hP, ρ, F1, SatW.shrink (L := s.L) (H1 := s.H) (m1 := s.m) hs1 h0 (hJ 0) hs1.freshL hm0, fun b hb => ⟨hb, rfl⟩, hL1⟩
  · -- one round
    rintro k x W vals hx ⟨hPk, ρ', F', h1, h2, h3⟩ hvals
    have hxm : x ∈ xs := List.mem_of_getElem? hx
    have hxl := hps x hxm
    have hlt : l < W.heap.size := (Array.getElem?_eq_some_iff.1 h3).1
    have hvl := hvals.length
    have hy := run_yield (P := C.P) (args := vals.toArray) h3 (by rw [hrec]; simp; omega)
    rw [hrec] at hy
    have hfx0 := hfx x hxm
    have hvals' : All2 (R3 ρ' F' W) x vals := by
      have := hvals.imp (g := fun u => u) (R' := R3 ρ' F' W) (fun u v hu hr => by
        have := R3.map (p := fresh 0) (k := fun u => u) (ρ' := ρ') (F' := F') (w' := W) (fun u v hu hr => by
          have := R0.killIn (xs := []) (m := 0) (ρ' := ρ') (F' := F') (w' := W) (fun i hi _ => absurd hi (Nat.not_lt_zero _)) (fun b hb => (h2 b hb).1) (fun _ _ => rfl) hu hr
          rwa [show killIn [] u = u by cases u <;> rfl] at this) (by simpa using List.all_eq_true.1 hfx0 u hu) hr
        rwa [map3_id] at this)
      rwa [List.map_id'] at this
    have ha : SatW C ⟨putP s.L ps x, J k, s.m⟩ { a with tmps := (ps.zip vals).foldl (fun t q => t.setIfInBounds q.1 q.2) a.tmps } W ρ' F' := sat_putP ps x vals s.L a h1 o3 hxl hvals' hfx0
    have hA1 := h1.enterR l (fx := fx) hx2 (L' := putP s.L ps x) (a' := { tmps := (ps.zip vals).foldl (fun t q => t.setIfInBounds q.1 q.2) a.tmps, defers := [] }) ha.size rfl ha.slot ha.freshL
    have hgo := hb k x l hx hPk (C.inR l fx ⟨s.L, J k, s.m⟩ W ρ' F') rfl rfl rfl rfl _ W ⟨ρ', F', hA1⟩
    have hzip : (ps.toArray.zip vals.toArray).foldl (fun tmps (q : Tmp × Value) => tmps.setIfInBounds q.1 q.2) a.tmps = (ps.zip vals).foldl (fun t q => t.setIfInBounds q.1 q.2) a.tmps := by simp [List.zip_toArray]
    refine ⟨fn, _, assign, body, hy, roundIn_n (n := 9) (roundIn_of_wpIn hfn ?_)⟩
    have hgo : Code.wpIn (Fence.wide.inRound l) 9 C.P assign (den _ _ []) _ W := hgo
    refine wpIn_mono (by rw [hzip]; exact hgo) ?_
    rintro e a1 w1 ⟨s1, ⟨ρ1, F1', hs2⟩, rfl, hb2⟩
    -- the record turns
    have hlE : ∀ {ρ0 : Nat → Value} {F0 : Nat → Prop} {w0 : World} {s0 : St} {r : Loop}, SatW C s0 a w0 ρ0 F0 → w0.heap[l]? = some (.loop r) → ¬ allBlocks ρ0 s0.H l := fun h hl ⟨i, c, hi, e⟩ => by
      obtain ⟨o', k1, k2⟩ := (h.ch i c hi).obj e
      rw [hl] at k1
      obtain rfl := Option.some.inj k1
      cases k2
    have h3' : w1.heap[l]? = some (.loop (rec .ready none)) := (hs2.keep.block l hlt (hlE h1 h3)).trans h3
    have q1 := h1.leaveR hx1 hx3 hs2
    have hF1' : ∀ b, F1 b → F1' b ∧ w1.heap[b]? = W1.heap[b]? := fun b hb => ⟨hs2.base b (h2 b hb).1, (hs2.keep.block b (h1.lt b (h2 b hb).1) fun ⟨i, c, hi, e⟩ => h1.out i c b hi e (h2 b hb).1).trans (h2 b hb).2⟩
    refine ⟨_, run_beginRound h3' (by rw [hrec]), ?_⟩
    have hlt1 : l < w1.heap.size := (Array.getElem?_eq_some_iff.1 h3').1
    have q2 := q1.putLoop h3' hlo' (.loop { rec .ready none with state := .busy })
    have hcell := putLoop_cell (o := .loop { rec .ready none with state := .busy }) h3'
    have hB1 := q2.enterR l (fx := fx) hs2.fixd.1 (L' := s1.L) (a' := a1) hs2.size (hs2.defers.none rfl) (fun t v hv => let ⟨x, hx, hr⟩ := hs2.slot t v hv; ⟨x, hx, RS.mono' (fun k o v _ hc => hcell k o v hc) hr⟩) hs2.freshL
    have hgo2 := hb2 (C.inR l fx ⟨s.L, s1.H, s1.m⟩ (w1.putObj l (.loop { rec .ready none with state := .busy })) ρ1 F1') rfl rfl rfl rfl a1 _ ⟨ρ1, F1', hB1⟩
    have hgo2 : Code.wpIn (Fence.wide.inRound l) 9 C.P body (den _ _ []) _ _ := hgo2
    refine wpIn_mono hgo2 ?_
    rintro e a2 w2 ⟨s2, ⟨ρ2, F2, hs3⟩, hR⟩
    have hl4 : (w1.putObj l (.loop { rec .ready none with state := .busy })).heap[l]? = some (.loop { rec .ready none with state := .busy }) := World.putObj_heap_same hlt1
    have h4 : w2.heap[l]? = some (.loop { rec .ready none with state := .busy }) := (hs3.keep.block l (by show l < (w1.putObj l _).heap.size; rw [World.putObj_size]; exact hlt1) (hlE q2 hl4)).trans hl4
    have q3 := q2.leaveR hx1 hx3 hs3
    have hlF : ∀ b, F1 b → b ≠ l := fun b hb e => by
      have e1 := (h2 b hb).2
      rw [hF1] at hb
      rcases hb with hb | hb
      · have := hs.lt b hb; omega
      · omega
    have hF2 : ∀ b, F1 b → F2 b ∧ w2.heap[b]? = W1.heap[b]? := fun b hb => ⟨hs3.base b (hF1' b hb).1, (hs3.keep.block b (q2.lt b (hF1' b hb).1) fun ⟨i, c, hi, e⟩ => q2.out i c b hi e (hF1' b hb).1).trans ((World.putObj_heap_other (hlF b hb)).trans (hF1' b hb).2)⟩
    have fin : ∀ (jump : Option Code) (H' : List (Nat × Ch)), HLE s2.H H' → okH s.m H' = true →
        (Instr.endRound l jump).run C.P w2 = .ok (.bool jump.isNone) (w2.putObj l (.loop (rec (if jump.isNone then .ready else .done) jump))) ∧
        SatW C ⟨s.L, H', s.m⟩ a (w2.putObj l (.loop (rec (if jump.isNone then .ready else .done) jump))) ρ2 F2 ∧
        (∀ b, F1 b → F2 b ∧ (w2.putObj l (.loop (rec (if jump.isNone then .ready else .done) jump))).heap[b]? = W1.heap[b]?) ∧
        (w2.putObj l (.loop (rec (if jump.isNone then .ready else .done) jump))).heap[l]? = some (.loop (rec (if jump.isNone then .ready else .done) jump)) := fun jump H' hle hok' => by
      refine ⟨?_, ?_, fun b hb => ⟨(hF2 b hb).1, (World.putObj_heap_other (hlF b hb)).trans (hF2 b hb).2⟩, World.putObj_heap_same (Array.getElem?_eq_some_iff.1 h4).1⟩
      · have := run_endRound (P := C.P) jump h4
        rw [hrec] at this ⊢
        exact this
      · exact (SatW.shrink (L := s.L) (H1 := s2.H) (m1 := s2.m) q3 hle hok' hs.freshL hm0).putLoop h4 hlo' _
    have leave : ∀ c, (∃ H, X k c H ∧ HLE s2.H H) → ∃ v w', (Instr.endRound l (some c)).run C.P w2 = .ok v w' ∧ ((Ending.returned v = .returned (.bool true) ∧ P (k + 1) ∧ ∃ ρ' F', SatW C ⟨s.L, J (k + 1), s.m⟩ a w' ρ' F' ∧ (∀ b, F1 b → F' b ∧ w'.heap[b]? = W1.heap[b]?) ∧ w'.heap[l]? = some (.loop (rec .ready none))) ∨
        (Ending.returned v = .returned (.bool false) ∧ ∃ c H' ρ' F', (P k ∧ X k c H') ∧ SatW C ⟨s.L, H', s.m⟩ a w' ρ' F' ∧ (∀ b, F1 b → F' b ∧ w'.heap[b]? = W1.heap[b]?) ∧ w'.heap[l]? = some (.loop (rec .done (some c))))) := fun c hc => by
      obtain ⟨H', hXc, hc⟩ := hc
      obtain ⟨r1, r2, r3, r4⟩ := fin (some c) H' hc (hX k c H' hXc)
      exact ⟨_, _, r1, .inr ⟨rfl, c, H', ρ2, F2, ⟨hPk, hXc⟩, r2, r3, r4⟩⟩
    cases e with
    | normal =>
      obtain ⟨r1, r2, r3, r4⟩ := fin none (J (k + 1)) hR.2 (hJ _)
      exact ⟨_, _, r1, .inl ⟨rfl, hR.1, ρ2, F2, r2, r3, r4⟩⟩
    | ret => exact leave .ret hR
    | exit id => exact leave (.exit id) hR
    | goto t => exact leave (.goto t) hR
    | panic ch => exact hR.elim
    | outgrown => exact hR.elim
  · -- behind the iterator
    have fin : ∀ {W : World} {ρ' : Nat → Value} {F' : Nat → Prop} {H' : List (Nat × Ch)} {r : Loop} (o : Obj), SatW C ⟨s.L, H', s.m⟩ a W ρ' F' → (∀ b, F1 b → F' b ∧ W.heap[b]? = W1.heap[b]?) → W.heap[l]? = some (.loop r) →
        Sat C ⟨s.L, H', s.m⟩ { a with defers := markOf D :: a.defers } (W.putObj l o) := fun {W ρ' F' H' r} o h1 h2 h3 => by
      have q := h1.putLoop h3 hlo' o
      have hFD : F1 D := by rw [hF1]; exact .inr rfl
      obtain ⟨d1, d2⟩ := h2 D hFD
      refine ⟨ρ', F', { size := q.size, slot := q.slot, ch := q.ch, sep := q.sep, out := q.out, freshL := q.freshL, freshH := q.freshH, lt := q.lt, mine := q.mine, sub := q.sub, base := q.base, fixd := q.fixd, keep := q.keep, env := q.env, defers := ?_ }⟩
      obtain ⟨ms, m1, m2, m3, m4⟩ := q.defers
      obtain ⟨ms0, m10, _, _, m40⟩ := hs.defers
      have hms : ms = ms0 := by
        have e : ms.map markOf ++ C.defs = ms0.map markOf ++ C.defs := m1.symm.trans m10
        have := List.append_cancel_right e
        exact (List.map_inj_right fun a b e => by simp [markOf] at e; exact e).1 this
      subst hms
      refine ⟨D :: ms, by rw [m1]; rfl, List.nodup_cons.2 ⟨fun hm => ?_, m2⟩, fun e => (by rw [hmk.1] at e; cases e), fun k hk => ?_⟩
      · have := hs.lt D (m40 D hm).2.1; omega
      · rcases List.mem_cons.1 hk with rfl | hk
        · exact ⟨Nat.le_trans hmk.2 hlo, d1, (World.putObj_heap_other hDl).trans (d2.trans hK1)⟩
        · exact m4 k hk
    rintro e W ⟨⟨v, rfl⟩, ⟨hPk, ρ', F', h1, h2, h3⟩ | ⟨k, hk, c, H', ρ', F', ⟨hPk, hXc⟩, h1, h2, h3⟩⟩
    · have hend := run_endLoop (P := C.P) h3 (by rw [hrec]; simp)
      exact ⟨none, W.putObj l (.loop { rec .ready none with state := .exhausted }), by rw [hend, hrec], k1 hPk _ _ (fin (.loop { rec .ready none with state := .exhausted }) h1 h2 h3)⟩
    · have hend := run_endLoop (P := C.P) h3 (by rw [hrec]; simp)
      refine ⟨some c, W.putObj l (.loop { rec .done (some c) with state := .exhausted }), by rw [hend, hrec], ?_⟩
      have := k2 k c H' hk hPk hXc _ _ (fin (.loop { rec .done (some c) with state := .exhausted }) h1 h2 h3)
      rw [den_code, hrd] at this
      exact this
end

/-- Proc.mk of a function that ranges over functions. -/
theorem Proc.mkR {P : Pg} (g : Cfg) (htys : TysOK P.P g.tys) (ids : List Nat) {f : FuncId} {fn : Func} {c : Code} {args : List V} {H : List Ch} {r : V} {H' : List Ch} {rs : List ResultVar} (hf : P.P.funcs[f]? = some fn) (hb : fn.body = some c) (hname : (fn.name == "runtime.NumGoroutine") = false)
    (hn : g.n = fn.ntmps) (hrs : fn.results = rs.toArray) (hok : (Nat.ble args.length g.n && freshAll args H H.length && freshAll [r] H' H'.length && Nat.ble g.fix H.length && Nat.ble H.length H'.length) = true)
    (hgo : ∀ (C : Ctx), Cx P g C → (C.mks = true ∧ C.lo ≤ C.w0.heap.size) → Go C [.code c] ⟨ixL args, ixH H, lenL H⟩ (Ret g rs ids r H')) : Proc P f g.fix args H r H' := by
  simp only [Bool.and_eq_true] at hok
  obtain ⟨⟨⟨⟨h1, h2⟩, h3⟩, h4⟩, h5⟩ := hok
  exact Proc.intro hf hb hname htys hn hrs h1 h2 h3 h4 h5 ids fun C e1 e2 e3 _ e5 e6 => by rw [← ixL_eq, ← ixH_eq, ← lenL_eq]; exact hgo C ⟨⟨e1, e2, e3, htys⟩, e5⟩ e6

/-- Up to a range over a function, and over it; chunks from fx on may move. -/
theorem Cx.rangeF {P : Pg} {g : Cfg} {C : Ctx} (x : Cx P g C) (fx : Nat) (hmk : C.mks = true ∧ C.lo ≤ C.w0.heap.size) {s s' : St} {K K' : List Item} {Φ : Exit → St → Prop} {ob : List Prop} {gop : Operand} {ps : List Tmp} {assign body : Code} {f : FuncId} {caps A : List V} {H : List Ch} {xs : List (List V)} (is : List Nat) (Pr : Nat → Prop) (J : Nat → List (Nat × Ch)) (X : Nat → Code → List (Nat × Ch) → Prop)
    (h : run g 1000 K s [] = .code ob (.rangeFunc gop ps.toArray assign body) K' s') (hfx : fx = s'.m ∨ (Nat.ble g.fix fx && Nat.ble fx s'.m && s'.L.all fun q => q.2.all4 (fresh fx)) = true) (ho : AllP ob)
    (hev : ev s'.L [] gop = some (.fn f A)) (hseq : Its P f caps H xs) (hA : AEq A (caps.map (V.map3 (ren0 is)))) (hok : (nodupB is && Nat.beq is.length H.length && ps.all fun p => Nat.blt p g.n) = true) (hH : HLE s'.H (rnH is is H))
    (hps : ∀ x ∈ xs, x.length = ps.length) (hJ : ∀ k, okH s'.m (J k) = true) (hX : ∀ k c H', X k c H' → okH s'.m H' = true) (hP : Pr 0) (h0 : HLE s'.H (J 0))
    (hb : ∀ k x, xs[k]? = some x → Pr k → ∀ C1 : Ctx, Cr P { g with fix := fx } C1 → Go C1 [.code assign] ⟨putP s'.L ps x, J k, s'.m⟩ fun e s1 => e = .normal ∧
      ∀ C2 : Ctx, Cr P { g with fix := fx } C2 → Go C2 [.code body] s1 (RoundR (Pr (k + 1)) (J (k + 1)) (X k)))
    (k1 : Pr xs.length → Go C K' ⟨s'.L, J xs.length, s'.m⟩ Φ) (k2 : ∀ k c H', k < xs.length → Pr k → X k c H' → Go C (.code c :: K') ⟨s'.L, H', s'.m⟩ Φ) : Go C K s Φ := by
  refine st x.ty x.n x.fix h ⟨ho, ?_⟩
  refine Go.range (by rw [← x.fix]; exact hfx) x.rd hmk is hev (x.prog ▸ hseq) hA (by rw [← x.n]; exact hok) hH hps Pr J X hJ hX hP h0 (fun k y l hy hPk C1 e1 e2 e3 e4 a w hs => ?_) k1 k2
  refine wq_mono (hb k y hy hPk C1 ⟨e1.trans x.prog, x.n.trans e2.symm, e3.symm, x.tys⟩ a w hs) ?_
  intro e a' w' hq
  have hq : den C1 (conc C1 _) [] e a' w' := hq
  obtain ⟨s1, q1, q2, q3⟩ := hq
  exact ⟨s1, q1, q2, fun C2 f1 f2 f3 f4 => q3 C2 ⟨f1.trans x.prog, x.n.trans f2.symm, f3.symm, x.tys⟩⟩
/-- The same, where nothing that was there moves. -/
theorem Cx.range {P : Pg} {g : Cfg} {C : Ctx} (x : Cx P g C) (hmk : C.mks = true ∧ C.lo ≤ C.w0.heap.size) {s s' : St} {K K' : List Item} {Φ : Exit → St → Prop} {ob : List Prop} {gop : Operand} {ps : List Tmp} {assign body : Code} {f : FuncId} {caps A : List V} {H : List Ch} {xs : List (List V)} (is : List Nat) (Pr : Nat → Prop) (J : Nat → List (Nat × Ch)) (X : Nat → Code → List (Nat × Ch) → Prop)
    (h : run g 1000 K s [] = .code ob (.rangeFunc gop ps.toArray assign body) K' s') (ho : AllP ob)
    (hev : ev s'.L [] gop = some (.fn f A)) (hseq : Its P f caps H xs) (hA : AEq A (caps.map (V.map3 (ren0 is)))) (hok : (nodupB is && Nat.beq is.length H.length && ps.all fun p => Nat.blt p g.n) = true) (hH : HLE s'.H (rnH is is H))
    (hps : ∀ x ∈ xs, x.length = ps.length) (hJ : ∀ k, okH s'.m (J k) = true) (hX : ∀ k c H', X k c H' → okH s'.m H' = true) (hP : Pr 0) (h0 : HLE s'.H (J 0))
    (hb : ∀ k x, xs[k]? = some x → Pr k → ∀ C1 : Ctx, Cr P { g with fix := s'.m } C1 → Go C1 [.code assign] ⟨putP s'.L ps x, J k, s'.m⟩ fun e s1 => e = .normal ∧
      ∀ C2 : Ctx, Cr P { g with fix := s'.m } C2 → Go C2 [.code body] s1 (RoundR (Pr (k + 1)) (J (k + 1)) (X k)))
    (k1 : Pr xs.length → Go C K' ⟨s'.L, J xs.length, s'.m⟩ Φ) (k2 : ∀ k c H', k < xs.length → Pr k → X k c H' → Go C (.code c :: K') ⟨s'.L, H', s'.m⟩ Φ) : Go C K s Φ := by
  exact x.rangeF s'.m hmk is Pr J X h (.inl rfl) ho hev hseq hA hok hH hps hJ hX hP h0 hb k1 k2
end Go.Sx

/-
  Sx, part 53: what a function reads as data it may read of slices that its caller owns.
-/
set_option linter.unusedVariables false
set_option linter.unusedSimpArgs false
namespace Go.Sx

/-- An owned slice, as data. -/
def lend (H : List Ch) : V → V
  | .own i => match H[i]? with
    | some (.vec _ sz n f) => .d (.sl sz n f)
    | _ => .own i
  | v => v
def allVec (H : List Ch) : Bool := H.all fun c => match c with | .vec .. => true | _ => false

theorem vec_data {ρ : Nat → Value} {F F' : Nat → Prop} {w : World} {e : TypeId} {sz n : Nat} {f : Nat → List D} {v : Value} {xs : List Value} (hFF : ∀ k, F k → F' k) (hb : ∀ b, blk v = some b → F' b) (hown : w.ownsRow 0 e sz v n xs) (hel : Elems F w sz n f xs) : RD F' w (.sl sz n f) v := by
  have hown' := hown
  rcases hown.2 with ⟨h1, h2⟩ | ⟨b, cap, cur, h1, _, h3, h4, h5, h6, h7⟩
  · subst h2; rw [h1]; exact .emp _ _ _ _
  · rw [h1]
    refine .sl sz n f b 0 cap (fun i j => (xs[i * sz + j]?).getD undef) (hb b (by rw [h1]; rfl)) h4 (fun i j hi hj => ?_) (fun i hi => (hel i hi).1) (fun i j d hi hd => ?_)
    · have hl := (hel i hi).1
      obtain ⟨c, c1, c2⟩ := (hel i hi).2 j _ (List.getElem?_eq_getElem (show j < (f i).length by omega))
      have := hown'.cells (g := b) (by rw [h1]; rfl) _ _ c1
      rw [Addr.add_lit] at this
      rw [this, c1]; rfl
    · obtain ⟨c, c1, c2⟩ := (hel i hi).2 j d hd
      rw [c1]
      exact RD.mono hFF (fun _ _ => rfl) c2

/-- **A contract over data serves slices that the caller owns**, where the answer is flat. -/
theorem Pure.borrow {P : Pg} {f : FuncId} {args args' : List V} {r : V} {y : Value} (H : List Ch) (hp : Pure P f args' r []) (ha : args' = args.map (V.map3 (lend H))) (hr : valOf r = some y) (hok : (freshAll args H H.length && freshAll [r] H H.length && allVec H) = true) : Proc P f H.length args H r H := by
  subst ha
  simp only [Bool.and_eq_true] at hok
  obtain ⟨⟨h1, h2⟩, h3⟩ := hok
  obtain ⟨hcall, hfr, hfr', _, _, hc⟩ := hp
  refine ⟨hcall, h1, h2, Nat.le_refl _, Nat.le_refl _, fun w F ρ vals hF hE hH hargs => ?_⟩
  let F' : Nat → Prop := fun k => F k ∨ ownB ρ H k
  have hFF : ∀ k, F k → F' k := fun k hk => .inl hk
  have hF' : ∀ k, F' k → k < w.heap.size := fun k hk => by
    rcases hk with hk | ⟨i, hi, e⟩
    · exact hF k hk
    · exact (hH.ch i _ (List.getElem?_eq_getElem hi)).lt (bks_main e)
  have h1' := h1
  simp only [freshAll, Bool.and_eq_true, List.all_eq_true] at h1'
  have hargs' : All2 (R3 ρ F' w) (args.map (V.map3 (lend H))) vals := hargs.imp fun u v hu hr => R3.map (p := fresh H.length) (fun u v hf hr => by
    cases u with
    | own i =>
      have hi : i < H.length := by simpa [fresh] using hf
      have hm := List.all_eq_true.1 h3 _ (List.getElem_mem hi)
      obtain ⟨e1, e2⟩ := hr
      simp only [lend, List.getElem?_eq_getElem hi]
      cases hc : H[i] with
      | vec e sz n f =>
        have := hH.ch i _ (List.getElem?_eq_getElem hi)
        rw [hc] at this
        obtain ⟨xs, k1, k2⟩ := this
        subst e1
        exact vec_data (ρ := ρ) hFF (fun b hb => .inr ⟨i, hi, hb⟩) k1 k2
      | _ => rw [hc] at hm; cases hm
    | _ => exact R0.world hFF (fun _ _ => rfl) hr) (h1'.1 u hu) hr
  refine (hc w F' ρ vals hF' (hE.mono hFF fun _ _ => rfl) ⟨fun i c hi => by simp at hi, fun i j b hi => absurd hi (Nat.not_lt_zero _), fun i b hi => absurd hi (Nat.not_lt_zero _)⟩ hargs').mono ?_
  rintro e w' ⟨v, ρ', F'', rfl, hk, _, _, _, _, hr3, _, _⟩
  obtain rfl := valOf_sound hr hr3
  have hblk : ∀ k, k < w.heap.size → w'.heap[k]? = w.heap[k]? := fun k hk' => hk.block k hk' fun ⟨i, hi, _⟩ => absurd hi (Nat.not_lt_zero _)
  refine ⟨v, ρ, F, rfl, ⟨hk.os, hk.tape, hk.output, hk.size, fun k hk' _ => hblk k hk'⟩, fun _ _ => rfl, fun _ hk => hk, fun k hk' => Nat.lt_of_lt_of_le (hF k hk') hk.size, fun _ hk => .inl hk, valOf_mk hr, ⟨fun i c hi => ?_, hH.sep, hH.out⟩, fun i b hi e => .inr ⟨i, hi, e⟩⟩
  have := ChOK.keep (x := 0) (p := fun _ => true) (k := fun u => u) (ρ' := ρ) (F' := F) (w' := w') (fun u v _ hr => R0.world (fun _ hk => hk) (fun k hk => hblk k (hF k hk)) hr) (fun _ hk => hk) (fun k hk => hblk k (hF k hk)) rfl (fun b e => hblk b ((hH.ch i c hi).lt e)) (by
    cases c <;> simp [Ch.all, all_true]) (hH.ch i c hi)
  rwa [chmap_id] at this
/-- A library's function that hands back data of its own. -/
theorem Pure.ofLibD {P : Pg} {f : FuncId} {args : List V} {vals : List Value} {vs : Array Value} {d : D} (hc : Callable P.P f) (hfr : freshAll args [] 0 = true) (ha : vals0 args = some vals) (hvs : vs = vals.toArray)
    (h : ∀ (w : World) (F : Nat → Prop), EnvOK P.env F w → Calls P.P f vs w fun e w' => ∃ v, e = .returned v ∧ Go.RowKit.Below w.heap.size w w' ∧ RD (fun k => w.heap.size ≤ k ∧ k < w'.heap.size) w' d v) : Pure P f args (.d d) [] := by
  subst hvs
  refine ⟨hc, hfr, rfl, Nat.le_refl _, Nat.le_refl _, fun w F ρ ys hF hE hH hargs => ?_⟩
  obtain rfl := vals0_sound ha hargs
  refine (h w F hE).mono ?_
  rintro e w' ⟨v, rfl, hb, hr⟩
  obtain ⟨b1, b2, b3, b4, b5⟩ := hb
  refine ⟨v, ρ, fun k => F k ∨ (w.heap.size ≤ k ∧ k < w'.heap.size), rfl, ⟨b1, b2, b3, b4, fun k hk _ => b5 k hk⟩, fun _ _ => rfl, fun _ hk => .inl hk, fun k hk => ?_, fun k hk => ?_, RD.mono (fun _ hk => .inr hk) (fun _ _ => rfl) hr, ⟨fun i c hi => by simp at hi, fun i j b hi => absurd hi (Nat.not_lt_zero _), fun i b hi => absurd hi (Nat.not_lt_zero _)⟩, fun i b hi => absurd hi (Nat.not_lt_zero _)⟩
  · rcases hk with hk | hk
    · exact Nat.lt_of_lt_of_le (hF k hk) b4
    · exact hk.2
  · rcases hk with hk | hk
    · exact .inl hk
    · exact .inr (.inl hk.1)
/-- A contract serves arguments that say more. -/
theorem Pure.args {P : Pg} {f : FuncId} {args args' : List V} {r : V} {H' : List Ch} (hp : Pure P f args r H') (hA : AEq args' args) (hfr : freshAll args' [] 0 = true) : Pure P f args' r H' := by
  obtain ⟨hcall, _, hfr', h1, h2, hc⟩ := hp
  exact ⟨hcall, hfr, hfr', h1, h2, fun w F ρ vals hF hE hH hargs => hc w F ρ vals hF hE hH (AEq_sound hA hargs)⟩
/-- **An owned slice that is handed back, as data.** -/
theorem Pure.froze {P : Pg} {f : FuncId} {args : List V} {e : TypeId} {sz n : Nat} {g : Nat → List D} (hp : Pure P f args (.own 0) [.vec e sz n g]) : Pure P f args (.d (.sl sz n g)) [] := by
  obtain ⟨hcall, hfr, hfr', _, _, hc⟩ := hp
  refine ⟨hcall, hfr, rfl, Nat.le_refl _, Nat.le_refl _, fun w F ρ vals hF hE hH hargs => (hc w F ρ vals hF hE hH hargs).mono ?_⟩
  rintro e w' ⟨v, ρ', F', rfl, hk, hρ, hFF, hlt, hsub, hr, hhold, hmine⟩
  obtain ⟨xs, k1, k2⟩ := hhold.ch 0 _ rfl
  obtain ⟨e1, e2⟩ := (show R0 ρ' F' w' (.own 0) v from hr)
  subst e1
  refine ⟨ρ' 0, ρ', fun k => F' k ∨ blk (ρ' 0) = some k, rfl, hk, hρ, fun k hk => .inl (hFF k hk), fun k hk => ?_, fun k hk => ?_, vec_data (ρ := ρ') (fun _ => .inl) (fun b hb => .inr hb) k1 k2, ⟨fun i c hi => by simp at hi, fun i j b hi => absurd hi (Nat.not_lt_zero _), fun i b hi => absurd hi (Nat.not_lt_zero _)⟩, fun i b hi => absurd hi (Nat.not_lt_zero _)⟩
  · rcases hk with hk | hk
    · exact hlt k hk
    · exact (hhold.ch 0 _ rfl).lt (bks_main hk)
  · rcases hk with hk | hk
    · exact hsub k hk
    · exact .inr (hmine 0 k (by simp) hk)

/-- Where the function ends, the state may say less. -/
theorem Cr.leExit {P : Pg} {g : Cfg} {C : Ctx} (x : Cr P g C) {s : St} {K : List Item} {Φ : Exit → St → Prop} (k : Go C K s fun e s => ∃ s2, LE g.fix s s2 ∧ Φ e s2) : Go C K s Φ :=
  Go.relax (fun e s a w ⟨s2, h1, h2⟩ hs => ⟨s2, LE.sat (x.fix ▸ h1) hs, h2⟩) k
theorem lkGo {k : Key} {G : V → Bool → Prop} {z : V} : ∀ {es : List (Key × V)}, G ((tblAt k es).getD z) (tblAt k es).isSome → lkGoals k G z es
  | [], h => h
  | (a, v) :: r, h => by
    unfold tblAt at h
    refine ⟨fun hk => ?_, fun hk => ?_⟩
    · rw [if_pos hk] at h; exact h
    · rw [if_neg hk] at h; exact lkGo h
theorem lkSome {k : Key} {G : V → Bool → Prop} {z v : V} {es : List (Key × V)} (h : tblAt k es = some v) (g : G v true) : lkGoals k G z es := lkGo (by rw [h]; exact g)
theorem lkNone {k : Key} {G : V → Bool → Prop} {z : V} {es : List (Key × V)} (h : tblAt k es = none) (g : G z false) : lkGoals k G z es := lkGo (by rw [h]; exact g)
/-! ### calls that read slices of ours -/
def lendS (H : List (Nat × Ch)) : V → V
  | .own i => match get H i with
    | some (.vec _ sz n f) => .d (.sl sz n f)
    | _ => .own i
  | v => v
section
variable {C : Ctx} {s : St} {a : Act} {w : World} {ρ : Nat → Value} {F : Nat → Prop} {g : Cfg} {K : List Item} {Φ : Exit → St → Prop}
theorem call_borrow (h : SatW C s a w ρ F) {q : List (Nat × Bool)} (hq : pcA a.tmps q) {o : Oper} {f : FuncId} {A : List V} (hco : callOf s.L q o = some (f, A)) {args : List V} {r : V} {x : Value}
    (hp : Pure C.pg f args r []) (hx : valOf r = some x) (hA : AEq (A.map (V.map3 (lendS s.H))) args) :
    ∃ vals, (execOp a.eval o).run C.P w = .ok (.enter f vals) w ∧ Calls C.P f vals w fun e w' => e = .returned x ∧ Mod none w w' := by
  obtain ⟨hcall, hfr, hfr', _, _, hcalls⟩ := hp
  unfold callOf at hco
  split at hco
  · rename_i c hop
    split at hco
    · rename_i fo hc
      split at hco
      · rename_i f' caps A' he hes
        simp only [Option.some.injEq, Prod.mk.injEq] at hco
        obtain ⟨rfl, rfl⟩ := hco
        obtain ⟨cs, hcs, hcaps⟩ := (show R1 ρ F w (.fn f' caps) _ from (ev_sound h hq he).1)
        have hargs := (evs_sound h hq hes).1
        have hvals : c.args.map a.eval ++ cs.toArray = (c.args.toList.map a.eval ++ cs).toArray := by
          cases c.args; simp
        have hall : All2 (R3 ρ F w) (A' ++ caps) (c.args.toList.map a.eval ++ cs) := hargs.app (hcaps.mono fun u v hr => R3_of (R2_of (R1_of hr)))
        let F' : Nat → Prop := fun k => F k ∨ allBlocks ρ s.H k
        have hFF : ∀ k, F k → F' k := fun k hk => .inl hk
        have hF' : ∀ k, F' k → k < w.heap.size := fun k hk => by
          rcases hk with hk | ⟨i, c, hi, e⟩
          · exact h.lt k hk
          · exact (h.ch i c hi).lt e
        have hall2 : All2 (R3 ρ F' w) ((A' ++ caps).map (V.map3 (lendS s.H))) (c.args.toList.map a.eval ++ cs) := hall.imp fun u v hu hr => R3.map (p := fun _ => true) (fun u v _ hr => by
          cases u with
          | own i =>
            simp only [lendS]
            cases hg : get s.H i with
            | none => exact R0.world hFF (fun _ _ => rfl) hr
            | some ch =>
              cases ch with
              | vec e sz n f =>
                obtain ⟨e1, e2⟩ := hr
                obtain ⟨xs, k1, k2⟩ := h.ch i _ (get_mem hg)
                subst e1
                exact vec_data (ρ := ρ) hFF (fun b hb => .inr ⟨i, _, get_mem hg, hb⟩) k1 k2
              | _ => exact R0.world hFF (fun _ _ => rfl) hr
          | _ => exact R0.world hFF (fun _ _ => rfl) hr) ((all_true (fun _ => rfl) u).2.2) hr
        have hall3 := AEq_sound hA hall2
        refine ⟨_, run_call hop hc hcs hcall w, ?_⟩
        rw [hvals]
        refine (hcalls w F' ρ _ hF' (h.env.mono hFF fun _ _ => rfl) ⟨fun i c hi => by simp at hi, fun i j b hi => absurd hi (Nat.not_lt_zero _), fun i b hi => absurd hi (Nat.not_lt_zero _)⟩ hall3).mono ?_
        rintro e w' ⟨v, ρ', F'', rfl, hk, _, _, _, _, hr3, _, _⟩
        refine ⟨by rw [valOf_sound hx hr3], ⟨hk.os, hk.tape, hk.output, hk.size, fun k hlt _ => hk.block k hlt fun ⟨i, hi, _⟩ => absurd hi (Nat.not_lt_zero _)⟩⟩
      · simp at hco
    · simp at hco
  · simp at hco

/-- A call with a plain answer that reads slices of ours, in a drawn statement. -/
theorem QGo.callB (hn : g.n = C.n) {all : Array Oper} {o : Oper} {rest : List Oper} {args : List V} {r : V} {f : FuncId} {A : List V} {d : Nat} {x : Value}
    (hp : Pure C.pg f args r []) (hx : valOf r = some x) (hgd : o.guard = none) (hd : o.dst = some d) (hdn : (Nat.blt d g.n && r.all3 (fresh 0)) = true) (hco : callOf s.L [] o = some (f, A)) (hA : AEq (A.map (V.map3 (lendS s.H))) args)
    (k : QGo C all rest { s with L := put s.L d r } K Φ) : QGo C all (o :: rest) s K Φ := by
  intro a w ρ F h
  simp only [Bool.and_eq_true] at hdn
  refine QGo.op_next hgd (x := x) (fun w' hm => ?_) ?_
  · obtain ⟨vals, h1, h2⟩ := call_borrow (h.mod hm) (pc_nil _) hco hp hx hA
    unfold Oper.quietAt
    rw [h1]
    refine ⟨rfl, h2.mono ?_⟩
    rintro e w'' ⟨rfl, hm2⟩
    exact ⟨rfl, hm.trans hm2⟩
  · rw [hd]
    exact k _ _ _ _ (h.put (by rw [← hn]; simpa using hdn.1) (valOf_mk hx) (all3_imp (fun u hu => fresh_mono (Nat.zero_le _) hu) hdn.2))

/-- The same, in a statement that does not draw. -/
theorem Go.callB (hn : g.n = C.n) {all : Array Oper} {o : Oper} {rest : List Oper} {args : List V} {r : V} {f : FuncId} {A : List V} {d : Nat} {x : Value}
    (hp : Pure C.pg f args r []) (hx : valOf r = some x) (hgd : o.guard = none) (hd : o.dst = some d) (hdn : (Nat.blt d g.n && r.all3 (fresh 0)) = true) (hco : callOf s.L [] o = some (f, A)) (hA : AEq (A.map (V.map3 (lendS s.H))) args)
    (k : Go C (.ops all rest :: K) { s with L := put s.L d r } Φ) : Go C (.ops all (o :: rest) :: K) s Φ := by
  rintro a w ⟨ρ, F, h⟩
  simp only [Bool.and_eq_true] at hdn
  obtain ⟨vals, h1, h2⟩ := call_borrow h (pc_nil _) hco hp hx hA
  show wqList C.rd C.P all (den C (conc C Φ) K) (o :: rest) a w
  refine wqList_plain hgd fun N hN => ?_
  refine wqO_of h1 trivial ?_
  rw [Oper.upon_enter]
  refine h2.mono ?_
  rintro e w' ⟨rfl, hm⟩
  refine hN _ _ ?_
  rw [hd]
  exact k _ _ ⟨ρ, F, (h.mod hm).put (by rw [← hn]; simpa using hdn.1) (valOf_mk hx) (all3_imp (fun u hu => fresh_mono (Nat.zero_le _) hu) hdn.2)⟩
end

namespace Cr
variable {P : Pg} {g : Cfg} {C : Ctx} (x : Cr P g C) {s s' : St} {K K' : List Item} {Φ : Exit → St → Prop} {ob : List Prop}
include x
theorem qcallB {all : Array Oper} {l rest : List Oper} {o : Oper} {args A : List V} {r : V} {f d : Nat} {y : Value} (h : qrun g all 1000 l s [] = .op ob o rest s') (ho : AllP ob)
    (hco : callInfo g s' o = some (f, A, d)) (hp : Pure P f args r []) (hy : valOf r = some y) (hr : r.all3 (fresh 0) = true) (hA : AEq (A.map (V.map3 (lendS s'.H))) args) (k : QGo C all rest { s' with L := put s'.L d r } K Φ) : QGo C all l s K Φ := by
  suffices kk : QGo C all (o :: rest) s' K Φ from (qrun_holds (K := K) (Φ := Φ) x.ty x.n 1000 l s [] (by rw [h]; exact ⟨ho, kk⟩)).2
  unfold callInfo at hco
  split at hco
  · rename_i d' hg hd
    cases hb : Nat.blt d' g.n with
    | false => rw [hb] at hco; simp at hco
    | true =>
      rw [hb] at hco
      simp only [cond_true] at hco
      split at hco
      · rename_i f' A' hc
        simp only [Option.some.injEq, Prod.mk.injEq] at hco
        obtain ⟨rfl, rfl, rfl⟩ := hco
        exact QGo.callB x.n (x.prog ▸ hp) hy hg hd (by simp only [Bool.and_eq_true]; exact ⟨hb, hr⟩) hc hA k
      · simp at hco
  · simp at hco
theorem pureB {all : Array Oper} {o : Oper} {rest : List Oper} {args A : List V} {r : V} {f d : Nat} {y : Value} (h : run g 1000 K s [] = .op ob all o rest K' s') (ho : AllP ob)
    (hco : callInfo g s' o = some (f, A, d)) (hp : Pure P f args r []) (hy : valOf r = some y) (hr : r.all3 (fresh 0) = true) (hA : AEq (A.map (V.map3 (lendS s'.H))) args) (k : Go C (.ops all rest :: K') { s' with L := put s'.L d r } Φ) : Go C K s Φ := by
  refine st x.ty x.n x.fix h ⟨ho, ?_⟩
  unfold callInfo at hco
  split at hco
  · rename_i d' hg hd
    cases hb : Nat.blt d' g.n with
    | false => rw [hb] at hco; simp at hco
    | true =>
      rw [hb] at hco
      simp only [cond_true] at hco
      split at hco
      · rename_i f' A' hc
        simp only [Option.some.injEq, Prod.mk.injEq] at hco
        obtain ⟨rfl, rfl, rfl⟩ := hco
        exact Go.callB x.n (x.prog ▸ hp) hy hg hd (by simp only [Bool.and_eq_true]; exact ⟨hb, hr⟩) hc hA k
      · simp at hco
  · simp at hco
end Cr

/-- Names of chunks exchanged. -/
theorem Cx.perm {P : Pg} {g : Cfg} {C : Ctx} (x : Cx P g C) {s : St} {K : List Item} {Φ : Exit → St → Prop} (is : List Nat) (hp : okPerm is s.m g.fix = true) (k : Go C K (permS is s) Φ) : Go C K s Φ := fun a w hs => k a w (hs.perm (x.fix ▸ hp))
end Go.Sx

/-
  Sx, part 54: slices.Clone at any element's type, at data.
-/
set_option linter.unusedVariables false
set_option linter.unusedSimpArgs false
namespace Go.Sx
open Go.Shelf Go.RowKit Go.Proofs

def infoOK (P : Program) (t : TypeId) (size bytes : Nat) : Bool :=
  match P.info? t with
  | some i => (match i.zero with | some z => Nat.beq i.size size && Nat.beq i.bytes bytes && Nat.beq z.cells.size size | none => false)
  | none => false
theorem infoOK_some {P : Program} {t : TypeId} {size bytes : Nat} (h : infoOK P t size bytes = true) : ∃ i z, P.info? t = some i ∧ i.zero = some z ∧ i.size = size ∧ i.bytes = bytes ∧ z.cells.size = size := by
  unfold infoOK at h
  cases hi : P.info? t with
  | none => rw [hi] at h; cases h
  | some i =>
    rw [hi] at h
    simp only at h
    cases hz : i.zero with
    | none => rw [hz] at h; cases h
    | some z =>
      rw [hz] at h
      simp only [Bool.and_eq_true] at h
      exact ⟨i, z, rfl, hz, Nat.eq_of_beq_eq_true h.1.1, Nat.eq_of_beq_eq_true h.1.2, Nat.eq_of_beq_eq_true h.2⟩

section
variable {P : Program} {ρ : Ren}
set_option maxHeartbeats 2000000 in
set_option maxRecDepth 100000 in
/-- Of a slice of no elements that is not nil, wherever it lies. -/
theorem clone_zero (L : SlLaysE0.n41 P ρ) (i0 : TypeInfo) (z : Value) (size bytes : Nat) (hi : P.info? (ρ.t 23) = some i0) (hz0 : i0.zero = some z) (hz1 : i0.size = size) (hz2 : i0.bytes = bytes) (hzs : z.cells.size = size) (hsz : 0 < size)
    (z23 : ∀ w, (Go.sizeOf (ρ.t 23)).run P w = .ok size w) (a : Addr) (c : Nat) (w : World) :
    Calls P (ρ.f 41) #[.slice (some a) 0 c] w fun e w' => ∃ v', e = .returned v' ∧ w'.ownsRow w.heap.size (ρ.t 23) size v' 0 [] ∧ Below w.heap.size w w' := by
  have mixed := L.mixed; have t4 := L.t4; have a4 := L.a4; have z4 := L.z4; have v4 := L.v4; have t22 := L.t22; have a22 := L.a22; have z22 := L.z22; have v22 := L.v22
  have q22 : ∀ (w : World) (a : Option Addr) (n c n' c' : Nat), (binOp .eql (ρ.t 22) (.slice a n c) (.slice none n' c')).run P w = .ok (.bool a.isNone) w := fun w a n c n' c' => Lib.run_eql_slice_nil w _ _ a n c n' c' L.t22
  have u22 : ∀ w, Sem.run P (underlying (ρ.t 22)) w = .ok (TypeDesc.slice (ρ.t 23)) w := run_underlying t22
  obtain ⟨_, _, FG⟩ := L.f41
  go_enter FG, SlBodyN.n41_ntmps ρ
  go_wp2_with (at_builtin; refine wpList_append_own _ rfl _ _ (ρ.t 22) rfl w.heap.size (ρ.t 23) i0 z size bytes t22 hi hz0 hz1 hz2 hzs hsz _ _ _ rfl (World.ownsRow_made w #[] 0 (Nat.le_refl _) (Nat.zero_le _) (by simp)) a 0 c [] rfl (by simp) (by intro j u hj; simp at hj) (by intro u hu; cases hu) (by unfold maxLen; omega) (by omega) (by simp) ?_)
  intro v' w1 hown hgrow hnil
  go_wp2
  go_ret
  refine ⟨v', rfl, by simpa using hown, ?_⟩
  exact ((Below.refl _ w).alloc (Nat.le_refl _) _).grown hgrow (by simp) (by intro k hk; simp [Value.ownBlock] at hk; omega)
end

theorem Pure.ofClone {P : Pg} {r : Ren} (L : SlLaysE0.n41 P.P r) (hc : Callable P.P (r.f 41)) {size bytes : Nat} (hi : infoOK P.P (r.t 23) size bytes = true) (hsz : 0 < size) (z23 : ∀ w, (Go.sizeOf (r.t 23)).run P.P w = .ok size w)
    {n : Nat} {f : Nat → List D} (hn : n ≤ maxLen) (hbig : n * bytes ≤ 140737488355328) : Pure P (r.f 41) [.d (.sl size n f)] (.d (.sl size n f)) [] := by
  obtain ⟨i0, z, h1, h2, h3, h4, h5⟩ := infoOK_some hi
  refine ⟨hc, rfl, rfl, Nat.le_refl _, Nat.le_refl _, fun w F ρ vals hF hE hH hargs => ?_⟩
  have fin : ∀ {w' : World} {v : Value}, Below w.heap.size w w' → RD (fun k => F k ∨ (w.heap.size ≤ k ∧ k < w'.heap.size)) w' (.sl size n f) v → Post w F ρ 0 [] (.d (.sl size n f)) [] (.returned v) w' := fun {w' v} ⟨b1, b2, b3, b4, b5⟩ hr => by
    refine ⟨v, ρ, fun k => F k ∨ (w.heap.size ≤ k ∧ k < w'.heap.size), rfl, ⟨b1, b2, b3, b4, fun k hk _ => b5 k hk⟩, fun _ _ => rfl, fun _ hk => .inl hk, fun k hk => ?_, fun k hk => ?_, hr, ⟨fun i c hi => by simp at hi, fun i j b hi => absurd hi (Nat.not_lt_zero _), fun i b hi => absurd hi (Nat.not_lt_zero _)⟩, fun i b hi => absurd hi (Nat.not_lt_zero _)⟩
    · rcases hk with hk | hk
      · exact Nat.lt_of_lt_of_le (hF k hk) b4
      · exact hk.2
    · rcases hk with hk | hk
      · exact .inl hk
      · exact .inr (.inl hk.1)
  have own : ∀ {w' : World} {v : Value} {xs : List Value}, Below w.heap.size w w' → w'.ownsRow w.heap.size (r.t 23) size v n xs → Elems F w size n f xs → RD (fun k => F k ∨ (w.heap.size ≤ k ∧ k < w'.heap.size)) w' (.sl size n f) v := fun {w' v xs} hb ho he => by
    obtain ⟨_, _, _, _, b5⟩ := hb
    have hel : Elems F w' size n f xs := fun i hi => ⟨(he i hi).1, fun j d hd => by
      obtain ⟨c, c1, c2⟩ := (he i hi).2 j d hd
      exact ⟨c, c1, RD.mono (fun _ h => h) (fun k hk => b5 k (hF k hk)) c2⟩⟩
    refine vec_data (ρ := ρ) (F := F) (fun _ => .inl) (fun b hbk => ?_) ⟨ho.1, ho.2.imp id fun ⟨g, cap, cur, a, _, c⟩ => ⟨g, cap, cur, a, Nat.zero_le _, c⟩⟩ hel
    rcases ho.2 with ⟨q, _⟩ | ⟨b', cap, cur, q, q1, q3, _⟩
    · rw [q] at hbk; cases hbk
    · rw [q] at hbk
      simp only [blk, Option.some.injEq] at hbk
      subst hbk
      exact .inr ⟨q1, (Array.getElem?_eq_some_iff.1 q3).1⟩
  match vals, hargs with
  | [v], ⟨h0, _⟩ =>
    have h0 : RD F w (.sl size n f) v := h0
    cases h0 with
    | emp sz g a cap =>
      cases a with
      | none =>
        refine (AnyE.slices_Clone_nil L 0 cap w).mono ?_
        rintro e w' ⟨rfl, rfl⟩
        exact fin (Below.refl _ _) (.emp _ _ _ _)
      | some a =>
        refine (clone_zero L i0 z size bytes h1 h2 h3 h4 h5 hsz z23 a cap w).mono ?_
        rintro e w' ⟨v', rfl, k1, k2⟩
        exact fin k2 (own k2 k1 fun i hi => absurd hi (Nat.not_lt_zero _))
    | sl sz n f b o cap cs hFb hncap hcs hl hr =>
      have hg : ∀ i j, i < n → j < size → ((List.range (n * size)).map fun k => cs (k / size) (k % size))[i * size + j]? = some (cs i j) := fun i j hi hj => by
        have hlt : i * size + j < n * size := by
          have : (i + 1) * size ≤ n * size := Nat.mul_le_mul_right _ hi
          rw [Nat.succ_mul] at this; omega
        rw [List.getElem?_map, List.getElem?_range hlt]
        have e1 : (i * size + j) / size = i := by
          rw [Nat.mul_comm, Nat.mul_add_div hsz, Nat.div_eq_of_lt hj, Nat.add_zero]
        have e2 : (i * size + j) % size = j := by
          rw [Nat.mul_comm, Nat.mul_add_mod, Nat.mod_eq_of_lt hj]
        simp [e1, e2]
      have hk : ∀ k u, ((List.range (n * size)).map fun k => cs (k / size) (k % size))[k]? = some u → ∃ i j, i < n ∧ j < size ∧ k = i * size + j ∧ u = cs i j := fun k u hu => by
        rw [List.getElem?_map] at hu
        by_cases hlt : k < n * size
        · rw [List.getElem?_range hlt] at hu
          refine ⟨k / size, k % size, (Nat.div_lt_iff_lt_mul hsz).2 hlt, Nat.mod_lt _ hsz, ?_, by simpa using hu.symm⟩
          have := Nat.div_add_mod k size
          rw [Nat.mul_comm] at this; exact this.symm
        · rw [List.getElem?_eq_none (by simpa using hlt)] at hu; cases hu
      refine (AnyE.slices_Clone L i0 z size bytes h1 h2 h3 h4 h5 hsz z23 b o n cap ((List.range (n * size)).map fun k => cs (k / size) (k % size)) w (by simp) hn hbig (fun k u hu => ?_) (fun u hu => ?_)).mono ?_
      · obtain ⟨i, j, hi, hj, rfl, rfl⟩ := hk k u hu
        exact hcs i j hi hj
      · obtain ⟨k, hkl⟩ := List.getElem?_of_mem hu
        obtain ⟨i, j, hi, hj, rfl, rfl⟩ := hk k u hkl
        have hj2 : j < (f i).length := by rw [hl i hi]; exact hj
        exact (hr i j _ hi (List.getElem?_eq_getElem hj2)).one
      · rintro e w' ⟨v', rfl, k1, _, k3⟩
        refine fin k3 (own k3 k1 fun i hi => ⟨hl i hi, fun j d hd => ?_⟩)
        have hj : j < size := by
          have := (List.getElem?_eq_some_iff.1 hd).1
          rw [hl i hi] at this; exact this
        exact ⟨cs i j, hg i j hi hj, hr i j d hi hd⟩
end Go.Sx

/-
  Sx, part 55: each order of a drawn statement, during which chunks from k on may move; slices.Clone of a row of ours.
-/
set_option linter.unusedVariables false
set_option linter.unusedSimpArgs false
namespace Go.Sx
open Go.Shelf Go.RowKit Go.Proofs

/-- `every2`, where chunks from `kx` on may move. -/
theorem Cx.every3 {P : Pg} {g : Cfg} {C : Ctx} (x : Cx P g C) {s s' : St} {K K' : List Item} {Φ : Exit → St → Prop} {ob : List Prop} (kx : Nat) (is0 A : List Nat) (t : Ords) (s2 : St) {id : Nat} {ops : Array Oper} (h : run g 1000 K s [] = .code ob (.region id ops true) K' s') (ho : AllP ob) (hm : P.P.follows .mixedOrders = true)
    (hlow : (Nat.ble g.fix kx && Nat.ble kx s'.m && (delAll is0 s'.H).all fun q => Nat.blt q.1 kx && q.2.all (fresh kx)) = true)
    (hB : planE ops A t = true) (hΦ : NoPanic Φ)
    {obA : List Prop} {sA : St} (hqA : qrun g ops 1000 (pickL ops.toList A) ⟨s'.L, delAll is0 s'.H, s'.m⟩ [] = .done obA sA) (hoA : AllP obA)
    (he : ∀ C2, Cx P { g with fix := kx } C2 → EvT C2 ops (fun s => LE kx s s2 ∨ ∃ is, okPerm is s.m kx = true ∧ LE kx (permS is s) s2) t ⟨sA.L, onlyIn is0 s'.H, s'.m⟩)
    (k : Go C K' ⟨s2.L, app3 s2.H (delAll is0 s'.H), s2.m⟩ Φ) : Go C K s Φ := by
  simp only [Bool.and_eq_true, List.all_eq_true] at hlow
  obtain ⟨⟨f1, f2⟩, hlow⟩ := hlow
  have f1 := Nat.le_of_ble_eq_true f1
  have f2 := Nat.le_of_ble_eq_true f2
  have hlow : ∀ i c, (i, c) ∈ delAll is0 s'.H → i < kx ∧ c.all (fresh kx) = true := fun i c hi => ⟨by simpa using (hlow (i, c) hi).1, (hlow (i, c) hi).2⟩
  refine st x.ty x.n x.fix h ⟨ho, ?_⟩
  rintro a w ⟨ρ, F, hs⟩
  have hd : Mod none w { w with drawn := w.drawn + 1 } := ⟨rfl, rfl, rfl, Nat.le_refl _, fun _ _ _ => rfl⟩
  have hs1 := hs.mod hd
  generalize hw1 : ({ w with drawn := w.drawn + 1 } : World) = w1 at hs1
  let S0 : World → Prop := fun w' => ∀ k, k < w1.heap.size → ¬ blocksOf ρ s'.H is0 k → w'.heap[k]? = w1.heap[k]?
  obtain ⟨_, hmA, hrA⟩ := qrun_reads (F := F) x.ty x.n (S := S0) (fun w' hw' k hk hlt => hw' k hlt hk) 1000 _ _ _ hqA hoA
  refine x.ofWp ?_
  have hP : C.P.follows .mixedOrders = true := x.progP.symm ▸ hm
  simp only [planE, Bool.and_eq_true] at hB
  obtain ⟨⟨hns, hsz⟩, hpl⟩ := hB
  have hsz := Nat.eq_of_beq_eq_true hsz
  refine wp_region_any hP (wpAny_of_held (S := S0) _ _ _ _ ?_)
  have inv0 : Inv .any ops [] (Array.replicate ops.size false) := ⟨by simp, fun j oj _ hl => (by rw [getD_replicate_false] at hl; cases hl), fun t ht => (by cases ht)⟩
  have key : wpAnyH C.P .any ops (den C (conc C Φ) K') S0 (A.length + t.depth) (Array.replicate ops.size false) a { w with drawn := w.drawn + 1 } := ?_
  · rw [hsz] at key; exact key
  refine planH_sound (T := []) hns (fun c o v a w ho hq => den_quiet hΦ.quiet K' c ho v a w hq) (by rw [hw1]; exact fun k _ _ => rfl) (fun listed a1 inv hk hl => ?_) A _ a inv0 hpl (hrA a hs1)
  rw [hw1]
  simp only [Bool.and_eq_true] at hk
  have hl : SatW C ⟨sA.L, s'.H, s'.m⟩ a1 w1 ρ F := hl
  let C2 := C.subk s' is0 w1 ρ F kx
  have h2f : SatW C2 ⟨sA.L, onlyIn is0 s'.H, s'.m⟩ a1 w1 ρ F := hl.framek (s := ⟨sA.L, s'.H, s'.m⟩) is0 f2
  have hx2 : Cx P { g with fix := kx } C2 := ⟨⟨x.prog, x.n, rfl, x.tys⟩, x.rd⟩
  refine EvT.soundH (C := C2) (fun s a w hs => ?_) (fun s3 a3 w3 hs3 hj => ?_) t.depth t listed _ a1 w1 hk.1 hk.2 (he C2 hx2) ⟨ρ, F, h2f⟩ (Nat.le_refl _)
  · obtain ⟨ρ', F', hs⟩ := hs
    exact fun k hk hb => hs.keep.block k hk hb
  · have hs4 : Sat C2 s2 a3 w3 := by
      rcases hj with hj | ⟨is, hp, hj⟩
      · exact LE.sat hj hs3
      · exact LE.sat hj (Sat.perm hp hs3)
    obtain ⟨ρ4, F4, h4⟩ := hs4
    exact k a3 w3 ⟨ρ4, F4, hl.unframek (s := ⟨sA.L, s'.H, s'.m⟩) (x.fix ▸ f1) hlow h4⟩

theorem clone_data {ρ : Nat → Value} {F : Nat → Prop} {w w' : World} {e : TypeId} {size n : Nat} {f : Nat → List D} {v : Value} {xs : List Value} (hF : ∀ k, F k → k < w.heap.size) (hb : Below w.heap.size w w') (ho : w'.ownsRow w.heap.size e size v n xs) (he : Elems F w size n f xs) :
    RD (fun k => F k ∨ (w.heap.size ≤ k ∧ k < w'.heap.size)) w' (.sl size n f) v := by
  obtain ⟨_, _, _, _, b5⟩ := hb
  have hel : Elems F w' size n f xs := fun i hi => ⟨(he i hi).1, fun j d hd => by
    obtain ⟨c, c1, c2⟩ := (he i hi).2 j d hd
    exact ⟨c, c1, RD.mono (fun _ h => h) (fun k hk => b5 k (hF k hk)) c2⟩⟩
  refine vec_data (ρ := ρ) (F := F) (fun _ => .inl) (fun b hbk => ?_) ⟨ho.1, ho.2.imp id fun ⟨g, cap, cur, a, _, c⟩ => ⟨g, cap, cur, a, Nat.zero_le _, c⟩⟩ hel
  rcases ho.2 with ⟨q, _⟩ | ⟨b', cap, cur, q, q1, q3, _⟩
  · rw [q] at hbk; cases hbk
  · rw [q] at hbk
    simp only [blk, Option.some.injEq] at hbk
    subst hbk
    exact .inr ⟨q1, (Array.getElem?_eq_some_iff.1 q3).1⟩
theorem Proc.ofCloneOwn {P : Pg} {r : Ren} (L : SlLaysE0.n41 P.P r) (hc : Callable P.P (r.f 41)) {size bytes : Nat} (hi : infoOK P.P (r.t 23) size bytes = true) (hsz : 0 < size) (z23 : ∀ w, (Go.sizeOf (r.t 23)).run P.P w = .ok size w)
    {e : TypeId} {n : Nat} {f : Nat → List D} (hn : n ≤ maxLen) (hbig : n * bytes ≤ 140737488355328) : Proc P (r.f 41) 1 [.own 0] [.vec e size n f] (.d (.sl size n f)) [.vec e size n f] := by
  obtain ⟨i0, z, h1, h2, h3, h4, h5⟩ := infoOK_some hi
  refine ⟨hc, rfl, rfl, Nat.le_refl _, Nat.le_refl _, fun w F ρ vals hF hE hH hargs => ?_⟩
  match vals, hargs with
  | [v], ⟨h0, _⟩ =>
    obtain ⟨rfl, hmine⟩ := (show R0 ρ F w (.own 0) v from h0)
    obtain ⟨xs, k1, k2⟩ := hH.ch 0 _ rfl
    have hone : ∀ i c, [Ch.vec e size n f][i]? = some c → i = 0 ∧ c = .vec e size n f := fun i c hi => by
      match i with
      | 0 => exact ⟨rfl, (Option.some.inj hi).symm⟩
      | i + 1 => simp at hi
    have fin : ∀ {w' : World} {v' : Value}, Below w.heap.size w w' → RD (fun k => F k ∨ (w.heap.size ≤ k ∧ k < w'.heap.size)) w' (.sl size n f) v' → Post w F ρ 1 [.vec e size n f] (.d (.sl size n f)) [.vec e size n f] (.returned v') w' := fun {w' v'} ⟨b1, b2, b3, b4, b5⟩ hr => by
      refine ⟨v', ρ, fun k => F k ∨ (w.heap.size ≤ k ∧ k < w'.heap.size), rfl, ⟨b1, b2, b3, b4, fun k hk _ => b5 k hk⟩, fun _ _ => rfl, fun _ hk => .inl hk, fun k hk => ?_, fun k hk => ?_, hr, ⟨fun i c hi => ?_, hH.sep, fun i b hi e hb => ?_⟩, fun i b hi e => .inr ⟨i, hi, e⟩⟩
      · rcases hk with hk | hk
        · exact Nat.lt_of_lt_of_le (hF k hk) b4
        · exact hk.2
      · rcases hk with hk | hk
        · exact .inl hk
        · exact .inr (.inl hk.1)
      · have := ChOK.keep (x := 0) (p := fun _ => true) (k := fun u => u) (ρ' := ρ) (F' := fun k => F k ∨ (w.heap.size ≤ k ∧ k < w'.heap.size)) (w' := w') (fun u v _ hr => R0.world (fun _ hk => .inl hk) (fun k hk => b5 k (hF k hk)) hr) (fun _ hk => .inl hk) (fun k hk => b5 k (hF k hk)) rfl (fun b e => b5 b ((hH.ch i c hi).lt e)) (by
          cases c <;> simp [Ch.all, all_true]) (hH.ch i c hi)
        rwa [chmap_id] at this
      · obtain rfl : i = 0 := by simpa using hi
        rcases hb with hb | hb
        · exact hH.out 0 b (by simp) e hb
        · have := (hH.ch 0 _ rfl).lt (bks_main e)
          omega
    have hk0 := k1
    rcases k1.2 with ⟨q1, q2⟩ | ⟨b, cap, cur, q1, _, q3, q4, q5, q6, q7⟩
    · subst q2
      rw [q1]
      refine (AnyE.slices_Clone_nil L 0 0 w).mono ?_
      rintro e' w' ⟨rfl, rfl⟩
      exact fin (Below.refl _ _) (.emp _ _ _ _)
    · rw [q1]
      refine (AnyE.slices_Clone L i0 z size bytes h1 h2 h3 h4 h5 hsz z23 b 0 n cap xs w k1.1 hn hbig (fun j u hu => ?_) (fun u hu => ?_)).mono ?_
      · have := hk0.cells (g := b) (by rw [q1]; rfl) j u hu
        rwa [Addr.add_lit] at this
      · obtain ⟨k, hkl⟩ := List.getElem?_of_mem hu
        have hlt := (List.getElem?_eq_some_iff.1 hkl).1
        rw [k1.1] at hlt
        have hiN : k / size < n := (Nat.div_lt_iff_lt_mul hsz).2 hlt
        have hjN : k % size < (f (k / size)).length := by rw [(k2 _ hiN).1]; exact Nat.mod_lt _ hsz
        obtain ⟨c, c1, c2⟩ := (k2 _ hiN).2 (k % size) _ (List.getElem?_eq_getElem hjN)
        have hdm := Nat.div_add_mod k size
        rw [Nat.mul_comm] at hdm
        rw [hdm, hkl] at c1
        cases c1; exact c2.one
      · rintro e' w' ⟨v', rfl, g1, _, g3⟩
        exact fin g3 (clone_data (ρ := ρ) hF g3 g1 k2)
end Go.Sx
