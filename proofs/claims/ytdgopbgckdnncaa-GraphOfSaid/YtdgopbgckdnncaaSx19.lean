/-
  Sx, part 19: a call, by its contract.
-/
import Derived.Test.YtdgopbgckdnncaaSx18
set_option linter.unusedVariables false
set_option linter.unusedSimpArgs false
namespace Go.Sx

def callOf (L : List (Nat × V)) (q : List (Nat × Bool)) (o : Oper) : Option (FuncId × List V) :=
  match o.op with
  | .call c => match c.callee with
    | .value fo => match ev L q fo, evs L q c.args.toList with
      | some (.fn f caps), some A => some (f, A ++ caps)
      | _, _ => none
    | _ => none
  | _ => none

def inL (x : Nat) : List Nat → Bool
  | [] => false
  | y :: r => Nat.beq x y || inL x r
def killIn (xs : List Nat) : V → V
  | .ptr i o => bif inL i xs then .dead else .ptr i o
  | .own i => bif inL i xs then .dead else .own i
  | .vptr i z k o => bif inL i xs then .dead else .vptr i z k o
  | v => v
def delAll (is : List Nat) : List (Nat × Ch) → List (Nat × Ch)
  | [] => []
  | (i, c) :: r => bif inL i is then delAll is r else (i, c) :: delAll is r
def newIds : Nat → Nat → List Nat
  | _, 0 => []
  | m, n + 1 => m :: newIds (m + 1) n
def app2 {α : Type} : List α → List α → List α
  | [], b => b
  | a :: r, b => a :: app2 r b
def dropN {α : Type} : Nat → List α → List α
  | 0, l => l
  | _ + 1, [] => []
  | n + 1, _ :: r => dropN n r

/-- THE STATE BEHIND A CALL. -/
def after (s : St) (d : Nat) (is : List Nat) (fix : Nat) (r : V) (H' : List Ch) (q : List (Nat × Bool)) : St :=
  let ids := app2 is (newIds s.m (H'.length - is.length))
  let v := r.map3 (ren0 ids)
  { L := put (mapL (killIn (dropN fix is)) s.L) d (match q with | [] => v | q => .g q v), H := app2 (rnH ids ids H') (mapH (killIn (dropN fix is)) (delAll is s.H)), m := s.m + (H'.length - is.length) }

def okIs (g : Cfg) (m : Nat) (is : List Nat) (fix k : Nat) : Bool := nodupB is && is.all (fun i => Nat.blt i m) && (dropN fix is).all (fun i => Nat.ble g.fix i) && Nat.beq is.length k

def AEq : List V → List V → Prop
  | [], [] => True
  | a :: r, b :: q => VEq a b ∧ AEq r q
  | _, _ => False

section
theorem app2_eq {α : Type} (a b : List α) : app2 a b = a ++ b := by induction a <;> simp [app2, *]
theorem dropN_eq {α : Type} (n : Nat) (l : List α) : dropN n l = l.drop n := by
  induction n generalizing l with
  | zero => rfl
  | succ n ih => cases l <;> simp [dropN, ih]
theorem inL_iff {x : Nat} {l : List Nat} : inL x l = true ↔ x ∈ l := by
  induction l with
  | nil => simp [inL]
  | cons y r ih => simp [inL, ih]
theorem newIds_len (m n : Nat) : (newIds m n).length = n := by induction n generalizing m <;> simp [newIds, *]
theorem newIds_mem {m n x : Nat} : x ∈ newIds m n ↔ m ≤ x ∧ x < m + n := by
  induction n generalizing m with
  | zero => simp [newIds]
  | succ n ih => simp only [newIds, List.mem_cons, ih]; omega
theorem nth_mem {l : List Nat} {i : Nat} (h : i < l.length) : nth l i ∈ l := List.mem_of_getElem? (nth_get h)
theorem nth_app_left {a b : List Nat} {i : Nat} (h : i < a.length) : nth (app2 a b) i = nth a i := by
  rw [app2_eq]
  have h1 := nth_get (is := a ++ b) (i := i) (by simp; omega)
  have h2 := nth_get h
  rw [List.getElem?_append_left h, h2] at h1
  exact (Option.some.inj h1).symm
theorem delAll_mem {is : List Nat} {H : List (Nat × Ch)} {i : Nat} {c : Ch} (h : (i, c) ∈ delAll is H) : (i, c) ∈ H ∧ i ∉ is := by
  induction H with
  | nil => cases h
  | cons e r ih =>
    obtain ⟨j, d⟩ := e
    unfold delAll at h
    cases hj : inL j is with
    | true => rw [hj] at h; simp at h; exact ⟨List.mem_cons_of_mem _ (ih h).1, (ih h).2⟩
    | false =>
      rw [hj] at h
      simp only [cond_false, List.mem_cons, Prod.mk.injEq] at h
      rcases h with ⟨rfl, rfl⟩ | h
      · exact ⟨by simp, fun hm => by rw [inL_iff.2 hm] at hj; cases hj⟩
      · exact ⟨List.mem_cons_of_mem _ (ih h).1, (ih h).2⟩
theorem rnH_of_mem {is : List Nat} : ∀ {xs : List Nat} {cs : List Ch} {x : Nat} {c' : Ch}, (x, c') ∈ rnH is xs cs → ∃ i c, i < xs.length ∧ nth xs i = x ∧ cs[i]? = some c ∧ c' = c.map (ren0 is)
  | y :: xs, d :: cs, x, c', h => by
    rcases List.mem_cons.1 h with e | h
    · obtain ⟨rfl, rfl⟩ := Prod.mk.inj e; exact ⟨0, d, by simp, rfl, rfl, rfl⟩
    · obtain ⟨i, c, h1, h2, h3, h4⟩ := rnH_of_mem h
      exact ⟨i + 1, c, by simpa using h1, h2, by simpa using h3, h4⟩
  | [], _, _, _, h => by cases h
  | _ :: _, [], _, _, h => by cases h

/-- Where a number stands in a list. -/
def pos : List Nat → Nat → Option Nat
  | [], _ => none
  | y :: r, x => if y = x then some 0 else (pos r x).map (· + 1)
theorem pos_nth {l : List Nat} (hn : ∀ i j, i < l.length → j < l.length → i ≠ j → nth l i ≠ nth l j) {i : Nat} (h : i < l.length) : pos l (nth l i) = some i := by
  induction l generalizing i with
  | nil => simp at h
  | cons y r ih =>
    cases i with
    | zero => simp [pos, nth]
    | succ i =>
      have h0 := hn 0 (i + 1) (by simp) h (by omega)
      simp only [nth] at h0
      simp only [pos, nth, h0, if_false]
      rw [ih (fun a b ha hb hab => hn (a + 1) (b + 1) (by simpa using ha) (by simpa using hb) (by omega)) (by simpa using h)]
      rfl
theorem pos_none {l : List Nat} {x : Nat} (h : x ∉ l) : pos l x = none := by
  induction l with
  | nil => rfl
  | cons y r ih =>
    have h1 : ¬ y = x := fun e => h (by simp [e])
    simp only [pos, h1, if_false, ih (fun hm => h (by simp [hm]))]; rfl
end

theorem ren_fresh1 {is : List Nat} {k m : Nat} (hm : ∀ i, i < k → nth is i < m) {u : V} (h : u.all1 (fresh k) = true) : (u.map1 (ren0 is)).all1 (fresh m) = true := by
  have go : ∀ id, Nat.blt id k = true → Nat.blt (nth is id) m = true := fun id h => by simpa using hm id (by simpa using h)
  have g0 : ∀ u, fresh k u = true → fresh m (ren0 is u) = true := fun u h => by cases u <;> first | exact go _ h | rfl
  cases u with
  | fn f c => simp only [V.map1, V.all1, List.all_map, List.all_eq_true, Function.comp] at *; exact fun x hx => g0 x (h x hx)
  | ptr i o => exact go _ h
  | own i => exact go _ h
  | vptr i z k o => exact go _ h
  | _ => rfl
theorem ren_fresh2 {is : List Nat} {k m : Nat} (hm : ∀ i, i < k → nth is i < m) {u : V} (h : u.all2 (fresh k) = true) : (u.map2 (ren0 is)).all2 (fresh m) = true := by
  cases u with
  | agg us => simp only [V.map2, V.all2, List.all_map, List.all_eq_true, Function.comp] at *; exact fun x hx => ren_fresh1 hm (h x hx)
  | fn f c => exact ren_fresh1 (u := .fn f c) hm h
  | ptr i o => exact ren_fresh1 (u := .ptr i o) hm h
  | own i => exact ren_fresh1 (u := .own i) hm h
  | vptr i z k o => exact ren_fresh1 (u := .vptr i z k o) hm h
  | _ => rfl
theorem ren_fresh3 {is : List Nat} {k m : Nat} (hm : ∀ i, i < k → nth is i < m) {u : V} (h : u.all3 (fresh k) = true) : (u.map3 (ren0 is)).all3 (fresh m) = true := by
  cases u with
  | tup us => simp only [V.map3, V.all3, List.all_map, List.all_eq_true, Function.comp] at *; exact fun x hx => ren_fresh2 hm (h x hx)
  | agg us => exact ren_fresh2 (u := .agg us) hm h
  | fn f c => exact ren_fresh2 (u := .fn f c) hm h
  | ptr i o => exact ren_fresh2 (u := .ptr i o) hm h
  | own i => exact ren_fresh2 (u := .own i) hm h
  | vptr i z k o => exact ren_fresh2 (u := .vptr i z k o) hm h
  | _ => rfl
theorem ren_freshC {is : List Nat} {k m : Nat} (hm : ∀ i, i < k → nth is i < m) {c : Ch} (h : c.all (fresh k) = true) : (c.map (ren0 is)).all (fresh m) = true := by
  cases c with
  | box us => simp only [Ch.map, Ch.all, List.all_map, List.all_eq_true, Function.comp] at *; exact fun x hx => ren_fresh1 hm (h x hx)
  | _ => rfl

theorem killIn_or (xs : List Nat) (u : V) : killIn xs u = u ∨ killIn xs u = .dead := by
  cases u with
  | ptr i o => simp only [killIn]; cases inL i xs <;> simp
  | own i => simp only [killIn]; cases inL i xs <;> simp
  | vptr i z k o => simp only [killIn]; cases inL i xs <;> simp
  | _ => exact .inl rfl
theorem killIn1_fresh {xs : List Nat} {m m' : Nat} (hmm : m ≤ m') {v : V} (hv : v.all1 (fresh m) = true) : (v.map1 (killIn xs)).all1 (fresh m') = true := by
  have g0 : ∀ u, fresh m u = true → fresh m' (killIn xs u) = true := fun u h => by
    rcases killIn_or xs u with e | e <;> rw [e]
    · exact fresh_mono hmm h
    · rfl
  have g1 : ∀ u, u.leaf = true → fresh m u = true → (killIn xs u).all1 (fresh m') = true := fun u hl h => by
    have h2 := g0 u h
    rcases killIn_or xs u with e | e
    · rw [e] at h2 ⊢; cases u <;> first | exact h2 | cases hl
    · rw [e]; rfl
  cases v with
  | fn f c => simp only [V.map1, V.all1, List.all_map, List.all_eq_true, Function.comp] at *; exact fun x hx => g0 x (hv x hx)
  | ptr i o => exact g1 (.ptr i o) rfl hv
  | own i => exact g1 (.own i) rfl hv
  | vptr i z k o => exact g1 (.vptr i z k o) rfl hv
  | _ => first | rfl | exact all1_imp (fun u hu => fresh_mono hmm hu) hv
theorem killIn2_fresh {xs : List Nat} {m m' : Nat} (hmm : m ≤ m') {v : V} (hv : v.all2 (fresh m) = true) : (v.map2 (killIn xs)).all2 (fresh m') = true := by
  cases v with
  | agg us => simp only [V.map2, V.all2, List.all_map, List.all_eq_true, Function.comp] at *; exact fun x hx => killIn1_fresh hmm (hv x hx)
  | ptr i o =>
    have := killIn1_fresh (xs := xs) hmm (v := .ptr i o) hv
    rcases killIn_or xs (.ptr i o) with e | e <;> (simp only [V.map1] at this; simp only [V.map2, V.map1, e] at this ⊢; exact this)
  | own i =>
    have := killIn1_fresh (xs := xs) hmm (v := .own i) hv
    rcases killIn_or xs (.own i) with e | e <;> (simp only [V.map1] at this; simp only [V.map2, V.map1, e] at this ⊢; exact this)
  | vptr i z k o =>
    have := killIn1_fresh (xs := xs) hmm (v := .vptr i z k o) hv
    rcases killIn_or xs (.vptr i z k o) with e | e <;> (simp only [V.map1] at this; simp only [V.map2, V.map1, e] at this ⊢; exact this)
  | fn f c => exact killIn1_fresh (v := .fn f c) hmm hv
  | _ => rfl
theorem killIn3_fresh {xs : List Nat} {m m' : Nat} (hmm : m ≤ m') {v : V} (hv : v.all3 (fresh m) = true) : (v.map3 (killIn xs)).all3 (fresh m') = true := by
  cases v with
  | tup us => simp only [V.map3, V.all3, List.all_map, List.all_eq_true, Function.comp] at *; exact fun x hx => killIn2_fresh hmm (hv x hx)
  | agg us => exact killIn2_fresh (v := .agg us) hmm hv
  | ptr i o =>
    have := killIn2_fresh (xs := xs) hmm (v := .ptr i o) hv
    rcases killIn_or xs (.ptr i o) with e | e <;> (simp only [V.map2, V.map1] at this; simp only [V.map3, V.map2, V.map1, e] at this ⊢; exact this)
  | own i =>
    have := killIn2_fresh (xs := xs) hmm (v := .own i) hv
    rcases killIn_or xs (.own i) with e | e <;> (simp only [V.map2, V.map1] at this; simp only [V.map3, V.map2, V.map1, e] at this ⊢; exact this)
  | vptr i z k o =>
    have := killIn2_fresh (xs := xs) hmm (v := .vptr i z k o) hv
    rcases killIn_or xs (.vptr i z k o) with e | e <;> (simp only [V.map2, V.map1] at this; simp only [V.map3, V.map2, V.map1, e] at this ⊢; exact this)
  | fn f c => exact killIn2_fresh (v := .fn f c) hmm hv
  | _ => rfl
theorem killIn4_fresh {xs : List Nat} {m m' : Nat} (hmm : m ≤ m') {v : V} (hv : v.all4 (fresh m) = true) : (v.map4 (killIn xs)).all4 (fresh m') = true := by
  cases v with
  | g p u => exact killIn3_fresh hmm hv
  | tup us => exact killIn3_fresh (v := .tup us) hmm hv
  | agg us => exact killIn3_fresh (v := .agg us) hmm hv
  | ptr i o =>
    have := killIn3_fresh (xs := xs) hmm (v := .ptr i o) hv
    rcases killIn_or xs (.ptr i o) with e | e <;> (simp only [V.map3, V.map2, V.map1] at this; simp only [V.map4, V.map3, V.map2, V.map1, e] at this ⊢; exact this)
  | own i =>
    have := killIn3_fresh (xs := xs) hmm (v := .own i) hv
    rcases killIn_or xs (.own i) with e | e <;> (simp only [V.map3, V.map2, V.map1] at this; simp only [V.map4, V.map3, V.map2, V.map1, e] at this ⊢; exact this)
  | vptr i z k o =>
    have := killIn3_fresh (xs := xs) hmm (v := .vptr i z k o) hv
    rcases killIn_or xs (.vptr i z k o) with e | e <;> (simp only [V.map3, V.map2, V.map1] at this; simp only [V.map4, V.map3, V.map2, V.map1, e] at this ⊢; exact this)
  | fn f c => exact killIn3_fresh (v := .fn f c) hmm hv
  | _ => rfl
theorem killInC_fresh {xs : List Nat} {m m' : Nat} (hmm : m ≤ m') {c : Ch} (hc : c.all (fresh m) = true) : (c.map (killIn xs)).all (fresh m') = true := by
  cases c with
  | box us => simp only [Ch.map, Ch.all, List.all_map, List.all_eq_true, Function.comp] at *; exact fun y hy => killIn1_fresh hmm (hc y hy)
  | _ => rfl
end Go.Sx
