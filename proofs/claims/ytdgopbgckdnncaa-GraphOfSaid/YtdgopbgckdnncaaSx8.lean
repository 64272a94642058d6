/-
  Sx, part 8: how a state is kept when memory is made or written.
-/
import Derived.Test.YtdgopbgckdnncaaSx7
set_option linter.unusedVariables false
set_option linter.unusedSimpArgs false
namespace Go.Sx

def upd (ρ : Nat → Value) (id : Nat) (x : Value) : Nat → Value := fun j => if j = id then x else ρ j

def mapL (k : V → V) : List (Nat × V) → List (Nat × V)
  | [] => []
  | (t, v) :: r => (t, v.map4 k) :: mapL k r
def mapH (k : V → V) : List (Nat × Ch) → List (Nat × Ch)
  | [] => []
  | (t, c) :: r => (t, c.map k) :: mapH k r

theorem mem_mapL {k : V → V} {L : List (Nat × V)} {t : Nat} {v' : V} (h : (t, v') ∈ mapL k L) : ∃ v, (t, v) ∈ L ∧ v' = v.map4 k := by
  induction L with
  | nil => cases h
  | cons e r ih =>
    rcases List.mem_cons.1 h with e1 | h
    · obtain ⟨rfl, rfl⟩ := Prod.mk.inj e1; exact ⟨_, by simp, rfl⟩
    · obtain ⟨v, h1, h2⟩ := ih h; exact ⟨v, by simp [h1], h2⟩
theorem mem_mapH {k : V → V} {H : List (Nat × Ch)} {t : Nat} {c' : Ch} (h : (t, c') ∈ mapH k H) : ∃ c, (t, c) ∈ H ∧ c' = c.map k := by
  induction H with
  | nil => cases h
  | cons e r ih =>
    rcases List.mem_cons.1 h with e1 | h
    · obtain ⟨rfl, rfl⟩ := Prod.mk.inj e1; exact ⟨_, by simp, rfl⟩
    · obtain ⟨v, h1, h2⟩ := ih h; exact ⟨v, by simp [h1], h2⟩

theorem map1_id (v : V) : v.map1 (fun u => u) = v := by cases v <;> simp [V.map1]
theorem map2_id (v : V) : v.map2 (fun u => u) = v := by
  cases v <;> simp only [V.map2, V.map1, List.map_id']
  congr 1
  rw [List.map_congr_left (g := id) fun a _ => map1_id a]; simp
theorem map3_id (v : V) : v.map3 (fun u => u) = v := by
  cases v with
  | tup us => simp only [V.map3]; congr 1; rw [List.map_congr_left (g := id) fun a _ => map2_id a]; simp
  | agg us => exact map2_id (.agg us)
  | fn f c => exact map2_id (.fn f c)
  | _ => rfl
theorem map4_id (v : V) : v.map4 (fun u => u) = v := by
  cases v with
  | g p u => simp only [V.map4, map3_id]
  | tup us => exact map3_id (.tup us)
  | agg us => exact map3_id (.agg us)
  | fn f c => exact map3_id (.fn f c)
  | _ => rfl
theorem chmap_id (c : Ch) : c.map (fun u => u) = c := by
  cases c with
  | box us => simp only [Ch.map]; congr 1; rw [List.map_congr_left (g := id) fun a _ => map1_id a]; simp
  | _ => rfl

theorem fresh_mono {m m' : Nat} (h : m ≤ m') {u : V} (hu : fresh m u = true) : fresh m' u = true := by
  have go : ∀ id, Nat.blt id m = true → Nat.blt id m' = true := fun id h1 => by
    have h1 : id < m := by simpa using h1
    simpa using Nat.lt_of_lt_of_le h1 h
  cases u <;> first | rfl | exact go _ hu

theorem all1_imp {p q : V → Bool} (h : ∀ u, p u = true → q u = true) {v : V} (hv : v.all1 p = true) : v.all1 q = true := by
  cases v with
  | fn f c => simp only [V.all1, List.all_eq_true] at *; exact fun x hx => h x (hv x hx)
  | _ => exact h _ hv
theorem all2_imp {p q : V → Bool} (h : ∀ u, p u = true → q u = true) {v : V} (hv : v.all2 p = true) : v.all2 q = true := by
  cases v with
  | agg us => simp only [V.all2, List.all_eq_true] at *; exact fun x hx => all1_imp h (hv x hx)
  | fn f c => exact all1_imp (v := .fn f c) h hv
  | _ => exact h _ hv
theorem all3_imp {p q : V → Bool} (h : ∀ u, p u = true → q u = true) {v : V} (hv : v.all3 p = true) : v.all3 q = true := by
  cases v with
  | tup us => simp only [V.all3, List.all_eq_true] at *; exact fun x hx => all2_imp h (hv x hx)
  | agg us => exact all2_imp (v := .agg us) h hv
  | fn f c => exact all2_imp (v := .fn f c) h hv
  | _ => exact h _ hv
theorem all4_imp {p q : V → Bool} (h : ∀ u, p u = true → q u = true) {v : V} (hv : v.all4 p = true) : v.all4 q = true := by
  cases v with
  | g r u => exact all3_imp h hv
  | tup us => exact all3_imp (v := .tup us) h hv
  | agg us => exact all3_imp (v := .agg us) h hv
  | fn f c => exact all3_imp (v := .fn f c) h hv
  | _ => exact h _ hv
theorem chall_imp {p q : V → Bool} (h : ∀ u, p u = true → q u = true) {c : Ch} (hv : c.all p = true) : c.all q = true := by
  cases c with
  | box us => simp only [Ch.all, List.all_eq_true] at *; exact fun x hx => all1_imp h (hv x hx)
  | _ => rfl

theorem kill_or (x : Nat) (u : V) : kill x u = u ∨ kill x u = .dead := by
  unfold kill
  cases names x u
  · exact .inl rfl
  · exact .inr rfl
theorem kill_fresh {x m : Nat} {u : V} (h : fresh m u = true) : fresh m (kill x u) = true := by
  rcases kill_or x u with e | e <;> rw [e]
  · exact h
  · rfl

theorem kill1_fresh {x m : Nat} {v : V} (hv : v.all1 (fresh m) = true) : (v.map1 (kill x)).all1 (fresh m) = true := by
  cases v with
  | fn f c => simp only [V.map1, V.all1, List.all_map, List.all_eq_true, Function.comp] at *; exact fun y hy => kill_fresh (hv y hy)
  | ptr id o => show V.all1 (fresh m) (kill x (.ptr id o)) = true; rcases kill_or x (.ptr id o) with e | e <;> rw [e] <;> first | exact hv | rfl
  | own id => show V.all1 (fresh m) (kill x (.own id)) = true; rcases kill_or x (.own id) with e | e <;> rw [e] <;> first | exact hv | rfl
  | vptr id a b o => show V.all1 (fresh m) (kill x (.vptr id a b o)) = true; rcases kill_or x (.vptr id a b o) with e | e <;> rw [e] <;> first | exact hv | rfl
  | _ => exact hv
theorem kill2_fresh {x m : Nat} {v : V} (hv : v.all2 (fresh m) = true) : (v.map2 (kill x)).all2 (fresh m) = true := by
  cases v with
  | agg us => simp only [V.map2, V.all2, List.all_map, List.all_eq_true, Function.comp] at *; exact fun y hy => kill1_fresh (hv y hy)
  | fn f c => exact kill1_fresh (v := .fn f c) hv
  | ptr id o => show V.all2 (fresh m) (kill x (.ptr id o)) = true; rcases kill_or x (.ptr id o) with e | e <;> rw [e] <;> first | exact hv | rfl
  | own id => show V.all2 (fresh m) (kill x (.own id)) = true; rcases kill_or x (.own id) with e | e <;> rw [e] <;> first | exact hv | rfl
  | vptr id a b o => show V.all2 (fresh m) (kill x (.vptr id a b o)) = true; rcases kill_or x (.vptr id a b o) with e | e <;> rw [e] <;> first | exact hv | rfl
  | _ => exact hv
theorem kill3_fresh {x m : Nat} {v : V} (hv : v.all3 (fresh m) = true) : (v.map3 (kill x)).all3 (fresh m) = true := by
  cases v with
  | tup us => simp only [V.map3, V.all3, List.all_map, List.all_eq_true, Function.comp] at *; exact fun y hy => kill2_fresh (hv y hy)
  | agg us => exact kill2_fresh (v := .agg us) hv
  | fn f c => exact kill2_fresh (v := .fn f c) hv
  | ptr id o => show V.all3 (fresh m) (kill x (.ptr id o)) = true; rcases kill_or x (.ptr id o) with e | e <;> rw [e] <;> first | exact hv | rfl
  | own id => show V.all3 (fresh m) (kill x (.own id)) = true; rcases kill_or x (.own id) with e | e <;> rw [e] <;> first | exact hv | rfl
  | vptr id a b o => show V.all3 (fresh m) (kill x (.vptr id a b o)) = true; rcases kill_or x (.vptr id a b o) with e | e <;> rw [e] <;> first | exact hv | rfl
  | _ => exact hv
theorem kill4_fresh {x m : Nat} {v : V} (hv : v.all4 (fresh m) = true) : (v.map4 (kill x)).all4 (fresh m) = true := by
  cases v with
  | g p u => exact kill3_fresh hv
  | tup us => exact kill3_fresh (v := .tup us) hv
  | agg us => exact kill3_fresh (v := .agg us) hv
  | fn f c => exact kill3_fresh (v := .fn f c) hv
  | ptr id o => show V.all4 (fresh m) (kill x (.ptr id o)) = true; rcases kill_or x (.ptr id o) with e | e <;> rw [e] <;> first | exact hv | rfl
  | own id => show V.all4 (fresh m) (kill x (.own id)) = true; rcases kill_or x (.own id) with e | e <;> rw [e] <;> first | exact hv | rfl
  | vptr id a b o => show V.all4 (fresh m) (kill x (.vptr id a b o)) = true; rcases kill_or x (.vptr id a b o) with e | e <;> rw [e] <;> first | exact hv | rfl
  | _ => exact hv
theorem killC_fresh {x m : Nat} {c : Ch} (hc : c.all (fresh m) = true) : (c.map (kill x)).all (fresh m) = true := by
  cases c with
  | box us => simp only [Ch.map, Ch.all, List.all_map, List.all_eq_true, Function.comp] at *; exact fun y hy => kill1_fresh (hc y hy)
  | _ => rfl

section
variable {C : Ctx} {s : St} {a : Act} {w w' : World} {ρ : Nat → Value} {F : Nat → Prop}

/-- Blocks were added; nothing else has turned but, where `t` is some block, that one. -/
structure Mod (t : Option Nat) (w w' : World) : Prop where
  os : w'.os = w.os
  tape : w'.tape = w.tape
  output : w'.output = w.output
  size : w.heap.size ≤ w'.heap.size
  block : ∀ k, k < w.heap.size → some k ≠ t → w'.heap[k]? = w.heap[k]?

theorem Mod.of_grown {t : Option Nat} (h : w.grownBy w' t) : Mod t w w' := ⟨h.os, h.tape, h.output, h.size, h.block⟩
theorem Mod.alloc (w : World) (o : Obj) : Mod none w (w.alloc o) := .of_grown (World.grownBy_alloc w o none)

theorem SatW.keeps (h : SatW C s a w ρ F) {t : Option Nat} (hm : Mod t w w') (ht : ∀ b, t = some b → C.w0.heap.size ≤ b ∨ C.E b) : Keeps C.w0 C.E w' :=
  ⟨hm.os.trans h.keep.os, hm.tape.trans h.keep.tape, hm.output.trans h.keep.output, Nat.le_trans h.keep.size hm.size, fun k hk he =>
    (hm.block k (Nat.lt_of_lt_of_le hk h.keep.size) (fun e => by rcases ht k e.symm with h1 | h1; omega; exact he h1)).trans (h.keep.block k hk he)⟩

/-- A new chunk. -/
theorem SatW.new (h : SatW C s a w ρ F) (hm : Mod none w w') {x : Value} (hb : ∀ b, blk x = some b → w.heap.size ≤ b) {c : Ch} (hc : ChOK (upd ρ s.m x) F w' s.m c) (hcf : c.all (fresh (s.m + 1)) = true) (hpl : ∀ b, bks (upd ρ s.m x) s.m c b → blk (upd ρ s.m x s.m) = some b := by exact fun _ e => e) :
    SatW C { L := s.L, H := (s.m, c) :: s.H, m := s.m + 1 } a w' (upd ρ s.m x) F := by
  have hρ : ∀ id, id ≠ s.m → upd ρ s.m x id = ρ id := fun id hid => by simp [upd, hid]
  have hwF : ∀ k, F k → w'.heap[k]? = w.heap[k]? := fun k hk => hm.block k (h.lt k hk) (by simp)
  have h1 : SatW C { L := s.L, H := s.H, m := s.m + 1 } a w' (upd ρ s.m x) F := by
    refine h.change (fun u => u) (fun u v hu hr => hr.keep hρ (fun _ => id) hwF (fresh_names (Nat.le_refl _) hu)) (fun t v hv => ⟨⟨v, hv, (map4_id v).symm⟩, all4_imp (fun u hu => fresh_mono (Nat.le_succ _) hu) (h.freshL t v hv)⟩) (fun i c hc => ?_) (fun _ => id) hwF (fun k hk => Nat.lt_of_lt_of_le (h.lt k hk) hm.size) (h.keeps hm (by simp)) (Nat.le_succ _) h.sub (fun i hi => by have := h.fixd.1; rw [hρ i (by omega)]; exact h.fixd.2 i hi)
    obtain ⟨h2, h3⟩ := h.freshH i c hc
    exact ⟨⟨c, hc, (chmap_id c).symm⟩, chall_imp (fun u hu => fresh_mono (Nat.le_succ _) hu) h3, hρ i (by omega), fun b e => ⟨hm.block b ((h.ch i c hc).lt e) (by simp), h.out i c b hc e⟩⟩
  refine h1.addCh hc (fun b e => ?_) (Nat.lt_succ_self _) hcf (fun b e => ?_)
  · have e := hpl b e
    rw [show upd ρ s.m x s.m = x by simp [upd]] at e
    have hge := hb b e
    refine ⟨fun hF => by have := h.lt b hF; omega, fun i ci hi hne e2 => ?_⟩
    rw [bks_congr (hρ i hne)] at e2
    have := (h.ch i ci hi).lt e2
    omega
  · have e := hpl b e
    rw [show upd ρ s.m x s.m = x by simp [upd]] at e
    exact .inl (Nat.le_trans h.keep.size (hb b e))

/-- A chunk is written, and stays at its place. -/
theorem SatW.touch (h : SatW C s a w ρ F) {id : Nat} {c c' : Ch} (hi : (id, c) ∈ s.H) (hm : Mod (blk (ρ id)) w w') (hc : ChOK ρ F w' id c') (hcf : c'.all (fresh s.m) = true) (hpl : ∀ b, bks ρ id c' b → bks ρ id c b := by exact fun _ e => e) :
    SatW C { L := s.L, H := (id, c') :: delH id s.H, m := s.m } a w' ρ F := by
  have hwF : ∀ k, F k → w'.heap[k]? = w.heap[k]? := fun k hk => hm.block k (h.lt k hk) (fun e => h.out id c k hi (bks_main e.symm) hk)
  have h1 : SatW C { L := s.L, H := delH id s.H, m := s.m } a w' ρ F := by
    refine h.change (fun u => u) (fun u v hu hr => hr.keep (x := s.m) (fun _ _ => rfl) (fun _ => _root_.id) hwF (fresh_names (Nat.le_refl _) hu)) (fun t v hv => ⟨⟨v, hv, (map4_id v).symm⟩, h.freshL t v hv⟩) (fun i ci hci => ?_) (fun _ => _root_.id) hwF (fun k hk => Nat.lt_of_lt_of_le (h.lt k hk) hm.size) (h.keeps hm (fun b e => h.mine id c b hi (bks_main e))) (Nat.le_refl _) h.sub h.fixd.2
    obtain ⟨hci, hne⟩ := mem_delH hci
    exact ⟨⟨ci, hci, (chmap_id ci).symm⟩, (h.freshH i ci hci).2, rfl, fun b e => ⟨hm.block b ((h.ch i ci hci).lt e) (fun e2 => h.sep id i c ci b hi hci (Ne.symm hne) (bks_main e2.symm) e), h.out i ci b hci e⟩⟩
  refine h1.addCh hc (fun b e => ⟨h.out id c b hi (hpl b e), fun i ci hci hne e2 => ?_⟩) (h.freshH id c hi).1 hcf (fun b e => h.mine id c b hi (hpl b e))
  exact h.sep id i c ci b hi (mem_delH hci).1 (Ne.symm hne) (hpl b e) e2

/-- A chunk is written, and may have gone to another place: its elder values are dead. -/
theorem SatW.move (h : SatW C s a w ρ F) {id : Nat} {c c' : Ch} (hi : (id, c) ∈ s.H) (hfx : C.fix ≤ id) (hm : Mod (blk (ρ id)) w w') {x : Value} (hx : ∀ b, blk x = some b → w.heap.size ≤ b ∨ blk (ρ id) = some b) (hc : ChOK (upd ρ id x) F w' id c') (hcf : c'.all (fresh s.m) = true) (hpl : ∀ b, bks (upd ρ id x) id c' b → blk (upd ρ id x id) = some b := by exact fun _ e => e) :
    SatW C { L := mapL (kill id) s.L, H := (id, c') :: mapH (kill id) (delH id s.H), m := s.m } a w' (upd ρ id x) F := by
  have hρ : ∀ j, j ≠ id → upd ρ id x j = ρ j := fun j hj => by simp [upd, hj]
  have hwF : ∀ k, F k → w'.heap[k]? = w.heap[k]? := fun k hk => hm.block k (h.lt k hk) (fun e => h.out id c k hi (bks_main e.symm) hk)
  have h1 : SatW C { L := mapL (kill id) s.L, H := mapH (kill id) (delH id s.H), m := s.m } a w' (upd ρ id x) F := by
    refine h.change (kill id) (fun u v hu hr => hr.kill hρ (fun _ => _root_.id) hwF) (fun t v hv => ?_) (fun i ci hci => ?_) (fun _ => _root_.id) hwF (fun k hk => Nat.lt_of_lt_of_le (h.lt k hk) hm.size) (h.keeps hm (fun b e => h.mine id c b hi (bks_main e))) (Nat.le_refl _) h.sub (fun i hi => by rw [hρ i (by omega)]; exact h.fixd.2 i hi)
    · obtain ⟨v0, h2, rfl⟩ := mem_mapL hv
      exact ⟨⟨v0, h2, rfl⟩, kill4_fresh (h.freshL t v0 h2)⟩
    · obtain ⟨c0, h2, rfl⟩ := mem_mapH hci
      obtain ⟨h2, hne⟩ := mem_delH h2
      exact ⟨⟨c0, h2, rfl⟩, killC_fresh (h.freshH i c0 h2).2, hρ i hne, fun b e => by rw [bks_map] at e; exact ⟨hm.block b ((h.ch i c0 h2).lt e) (fun e2 => h.sep id i c c0 b hi h2 (Ne.symm hne) (bks_main e2.symm) e), h.out i c0 b h2 e⟩⟩
  refine h1.addCh hc (fun b e => ?_) (h.freshH id c hi).1 hcf (fun b e => ?_)
  rotate_left
  · have e := hpl b e
    rw [show upd ρ id x id = x by simp [upd]] at e
    rcases hx b e with h2 | h2
    · exact .inl (Nat.le_trans h.keep.size h2)
    · exact h.mine id c b hi (bks_main h2)
  have e := hpl b e
  rw [show upd ρ id x id = x by simp [upd]] at e
  refine ⟨fun hF => ?_, fun i ci hci hne e2 => ?_⟩
  · rcases hx b e with h2 | h2
    · have := h.lt b hF; omega
    · exact h.out id c b hi (bks_main h2) hF
  · obtain ⟨c0, h3, rfl⟩ := mem_mapH hci
    obtain ⟨h3, _⟩ := mem_delH h3
    rw [bks_congr (hρ i hne), bks_map] at e2
    rcases hx b e with h2 | h2
    · have := (h.ch i c0 h3).lt e2; omega
    · exact h.sep id i c c0 b hi h3 (Ne.symm hne) (bks_main h2) e2
end
end Go.Sx
