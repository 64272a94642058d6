/- Texts put together: T17J, T17K, T03G, T03H, T17L, T08T, T08R, T08U, T08V, T08A. -/
import Derived.Test.YteeofakohenpoaaDoorMC
import Derived.Test.YteeofakohenpoaaDoorMB
import Derived.Test.YteeofakohenpoaaDoorSxG
import Derived.Test.YteeofakohenpoaaDoorMA

/- What is parsed hangs on the tokens' kinds and texts alone: other places, tokens ahead of it, instructions ahead of it. -/
namespace Go.Proofs.YteeofakohenpoaaDoor
open Go.Sx
set_option linter.unusedVariables false
set_option linter.unusedSimpArgs false
set_option maxRecDepth 100000

/-- How many instructions there are. -/
theorem code_count {s : ByteArray} {l : List Tok} : ∀ {f n c : Nat} {xs : List Ins} {n' c' : Nat} {ys : List Ins}, codeF s l f n c xs = .ok (n', (c', ys)) → c' + xs.length = c + ys.length ∧ c ≤ c'
  | 0, n, c, xs, n', c', ys, h => by simp [codeF] at h
  | f + 1, n, c, xs, n', c', ys, h => by
    rw [codeF] at h
    split at h
    · simp only [Except.ok.injEq, Prod.mk.injEq] at h
      obtain ⟨rfl, rfl, rfl⟩ := h
      exact ⟨rfl, Nat.le_refl _⟩
    · rcases hV : instrV s l n c with e | ⟨n1, x⟩
      · rw [hV] at h; cases h
      · rw [hV] at h
        obtain ⟨h1, h2⟩ := code_count (show codeF s l f n1 (c + 1) (xs ++ [x]) = _ from h)
        rw [List.length_append] at h1
        simp only [List.length_cons, List.length_nil] at h1
        omega
theorem code_mono {s : ByteArray} {l : List Tok} {f n c : Nat} {xs : List Ins} {n' c' : Nat} {ys : List Ins} (h : codeF s l f n c xs = .ok (n', (c', ys))) : c ≤ c' := (code_count h).2
/-- But for the places. -/
def erI (x : Ins) : Ins := { x with at_ := 0 }
def erB (b : Blk) : Blk := ⟨b.name, b.code.map erI, 0⟩
def erF (f : Fun) : Fun := ⟨f.name, f.params, f.blocks.map erB, 0⟩
def erA (a : Arr) : Arr := { a with at_ := 0 }
def erP (p : Prg) : Prg := ⟨p.arrays.map erA, p.funcs.map erF⟩

/-- The tokens of (s, l) stand in (s', l') behind d others, and they are the last ones. -/
structure Sim (s : ByteArray) (l : List Tok) (s' : ByteArray) (l' : List Tok) (d : Nat) : Prop where
  len : l'.length = d + l.length
  kind : ∀ n k, isV l' (d + n) k = isV l n k
  text : ∀ n, txV s' l' (d + n) = txV s l n
def SimR {α : Type} (d : Nat) (E : α → α → Prop) (r r' : Except (Int × Int) (Nat × α)) : Prop :=
  match r with
  | .ok (n, x) => ∃ x', r' = .ok (d + n, x') ∧ E x x'
  | .error (a, e) => ∃ a', r' = .error (a', e)
/-- With c0 instructions ahead of it. -/
def SimC {α : Type} (d c0 : Nat) (E : α → α → Prop) (r r' : Except (Int × Int) (Nat × (Nat × α))) : Prop :=
  match r with
  | .ok (n, (c, x)) => if c0 + c ≤ 4096 then ∃ x', r' = .ok (d + n, (c0 + c, x')) ∧ E x x' else ∃ a', r' = .error (a', 3)
  | .error (a, e) => c0 = 0 → ∃ a', r' = .error (a', e)
section
variable {s : ByteArray} {l : List Tok} {s' : ByteArray} {l' : List Tok} {d c0 : Nat} (S : Sim s l s' l' d) {α β : Type} {E : α → α → Prop} {E2 : β → β → Prop}
omit S in
theorem SimR.bind {r r' : Except (Int × Int) (Nat × α)} {k k' : Nat → α → Except (Int × Int) (Nat × β)} (h1 : SimR d E r r') (h2 : ∀ n x x', E x x' → SimR d E2 (k n x) (k' (d + n) x')) : SimR d E2 (bnd r k) (bnd r' k') := by
  rcases r with ⟨a, e⟩ | ⟨n, x⟩
  · obtain ⟨a', rfl⟩ := h1
    exact ⟨a', rfl⟩
  · obtain ⟨x', rfl, hx⟩ := h1
    exact h2 n x x' hx
omit S in
theorem SimR.bindC {r r' : Except (Int × Int) (Nat × α)} {k k' : Nat → α → Except (Int × Int) (Nat × (Nat × β))} (h1 : SimR d E r r') (h2 : ∀ n x x', E x x' → SimC d c0 E2 (k n x) (k' (d + n) x')) : SimC d c0 E2 (bnd r k) (bnd r' k') := by
  rcases r with ⟨a, e⟩ | ⟨n, x⟩
  · obtain ⟨a', rfl⟩ := h1
    exact fun _ => ⟨a', rfl⟩
  · obtain ⟨x', rfl, hx⟩ := h1
    exact h2 n x x' hx
omit S in
theorem SimC.bind {r r' : Except (Int × Int) (Nat × (Nat × α))} {k k' : Nat → Nat × α → Except (Int × Int) (Nat × (Nat × β))} (h1 : SimC d c0 E r r') (hb : ∀ n c x, r = .ok (n, (c, x)) → c ≤ 4096) (hm : ∀ n c x n2 c2 y, r = .ok (n, (c, x)) → k n (c, x) = .ok (n2, (c2, y)) → c ≤ c2)
    (h2 : ∀ n c x x', r = .ok (n, (c, x)) → c0 + c ≤ 4096 → E x x' → SimC d c0 E2 (k n (c, x)) (k' (d + n) (c0 + c, x'))) : SimC d c0 E2 (bnd r k) (bnd r' k') := by
  rcases r with ⟨a, e⟩ | ⟨n, c, x⟩
  · exact fun h0 => by obtain ⟨a', rfl⟩ := h1 h0; exact ⟨a', rfl⟩
  · unfold SimC at h1
    dsimp only at h1
    split at h1
    · rename_i hc
      obtain ⟨x', rfl, hx⟩ := h1
      exact h2 n c x x' rfl hc hx
    · rename_i hc
      obtain ⟨a', rfl⟩ := h1
      show SimC d c0 E2 (k n (c, x)) (.error (a', 3))
      rcases hk : k n (c, x) with ⟨a2, e2⟩ | ⟨n2, c2, y⟩
      · exact fun h0 => by have := hb n c x rfl; omega
      · have := hm n c x n2 c2 y rfl hk
        unfold SimC
        dsimp only
        rw [if_neg (by omega)]
        exact ⟨a', rfl⟩
include S
theorem sim_nm (n : Nat) : SimR d (fun x x' => x = x') (nmV s l n) (nmV s' l' (d + n)) := by
  unfold nmV
  rw [S.kind]
  split
  · exact ⟨_, rfl, (S.text n).symm⟩
  · exact ⟨_, rfl⟩
theorem sim_need (n : Nat) (b : UInt8) : SimR d (fun _ _ => True) (needV s l n b) (needV s' l' (d + n) b) := by
  unfold needV
  rw [S.text]
  split
  · exact ⟨_, rfl, trivial⟩
  · exact ⟨_, rfl⟩
theorem sim_close {b : UInt8} {r r' : Except (Int × Int) (Nat × α)} (h : SimR d E r r') : SimR d E (closeV s l b r) (closeV s' l' b r') := by
  rw [closeV_bnd, closeV_bnd]
  exact h.bind fun n x x' hx => (sim_need S n b).bind fun n _ _ _ => ⟨_, rfl, hx⟩
theorem sim_namesF : ∀ (f n k : Nat) (o : List ByteArray), SimR d (fun x x' => x = x') (namesF s l f n k o) (namesF s' l' f (d + n) k o)
  | 0, n, k, o => ⟨_, rfl⟩
  | f + 1, n, k, o => by
    rw [namesF, namesF, S.kind, show d + n + 1 = d + (n + 1) from rfl, S.text, S.text]
    split
    · split
      · exact ⟨_, rfl⟩
      · split
        · exact sim_namesF f (n + 2) (k + 1) _
        · exact ⟨_, rfl, rfl⟩
    · exact ⟨_, rfl⟩
omit S in
theorem namesF_fuel : ∀ (f g n k : Nat) (o : List ByteArray), l.length + 1 ≤ f + n → l.length + 1 ≤ g + n → n ≤ l.length → namesF s l f n k o = namesF s l g n k o
  | 0, _, n, k, o, h, _, hn => by omega
  | _, 0, n, k, o, _, h, hn => by omega
  | f + 1, g + 1, n, k, o, h1, h2, hn => by
    rw [namesF, namesF]
    split
    · rename_i hi
      have := isV_lt hi
      split
      · rfl
      · split
        · rename_i hc
          have := tx_lt hc
          exact namesF_fuel f g _ _ _ (by omega) (by omega) (by omega)
        · rfl
    · rfl
omit S in
theorem pairsF_fuel : ∀ (f g n k : Nat) (x : Ins), l.length + 1 ≤ f + n → l.length + 1 ≤ g + n → n ≤ l.length → pairsF s l f n k x = pairsF s l g n k x
  | 0, _, n, k, x, h, _, hn => by omega
  | _, 0, n, k, x, _, h, hn => by omega
  | f + 1, g + 1, n, k, x, h1, h2, hn => by
    rw [pairsF, pairsF]
    split
    · rfl
    · rcases hV : pairV s l n x with e | ⟨n1, y⟩
      · rfl
      · have h3 := pairV_ok hV
        simp only [bnd]
        split
        · rename_i hc
          have := tx_lt hc
          exact pairsF_fuel f g _ _ _ (by omega) (by omega) (by omega)
        · rfl
theorem sim_names (n : Nat) : SimR d (fun x x' => x = x') (namesV s l n) (namesV s' l' (d + n)) := by
  unfold namesV
  rw [S.text, show d + n + 1 = d + (n + 1) from rfl, S.text]
  split
  · rename_i h1
    have := tx_lt h1
    split
    · exact ⟨_, rfl, rfl⟩
    · have hlen := S.len
      rw [namesF_fuel (s := s') (l := l') (l'.length + 2) (l.length + 2) (d + (n + 1)) 0 [] (by omega) (by omega) (by omega)]
      exact sim_close S (sim_namesF S _ _ _ _)
  · exact ⟨_, rfl⟩
def EI (x x' : Ins) : Prop := ∃ b, x' = { x with at_ := b }
omit S in
theorem EI.er {x x' : Ins} (h : EI x x') : erI x = erI x' := by obtain ⟨b, rfl⟩ := h; rfl
theorem sim_pairs : ∀ (f n k : Nat) (x x' : Ins), EI x x' → SimR d EI (pairsF s l f n k x) (pairsF s' l' f (d + n) k x')
  | 0, n, k, x, x', h => ⟨_, rfl⟩
  | f + 1, n, k, x, x', h => by
    rw [pairsF, pairsF, S.kind]
    split
    · exact ⟨_, rfl⟩
    · obtain ⟨b, rfl⟩ := h
      refine SimR.bind (E := EI) ((sim_nm S n).bind fun n f f' hf => (sim_need S n 58).bind fun n _ _ _ => (sim_nm S n).bind fun n a a' ha => ⟨_, rfl, b, by rw [← hf, ← ha]⟩) fun n y y' hy => ?_
      rw [S.text]
      split
      · exact sim_pairs f (n + 1) (k + 1) y y' hy
      · exact ⟨_, rfl, hy⟩
theorem sim_arg (n : Nat) {x x' : Ins} (h : EI x x') : SimR d EI (argV s l n x) (argV s' l' (d + n) x') := by
  obtain ⟨b, rfl⟩ := h
  exact (sim_nm S n).bind fun n a a' ha => ⟨_, rfl, b, by rw [ha]⟩
theorem sim_one (n : Nat) {x x' : Ins} (h : EI x x') : SimR d EI (oneV7 s l n x) (oneV7 s' l' (d + n) x') := by
  obtain ⟨b, rfl⟩ := h
  exact (sim_nm S n).bind fun n a a' ha => ⟨_, rfl, b, by rw [ha]⟩
theorem sim_ref (n : Nat) {x x' : Ins} (h : EI x x') : SimR d EI (refV s l n x) (refV s' l' (d + n) x') := by
  obtain ⟨b, rfl⟩ := h
  exact (sim_nm S n).bind fun n a a' ha => ⟨_, rfl, b, by rw [ha]⟩
omit S in
theorem EI.kind {x x' : Ins} (h : EI x x') (k : Int) : EI { x with kind := k } { x' with kind := k } := by obtain ⟨b, rfl⟩ := h; exact ⟨b, rfl⟩
omit S in
theorem EI.oper {x x' : Ins} (h : EI x x') (k o : Int) : EI { x with kind := k, op := o } { x' with kind := k, op := o } := by obtain ⟨b, rfl⟩ := h; exact ⟨b, rfl⟩
omit S in
theorem EI.refs {x x' : Ins} (h : EI x x') {a a' : ByteArray} (e : a = a') : EI { x with ref := a } { x' with ref := a' } := by obtain ⟨b, rfl⟩ := h; exact ⟨b, by rw [e]⟩
omit S in
theorem EI.alts {x x' : Ins} (h : EI x x') {a a' : ByteArray} (e : a = a') : EI { x with alt := a } { x' with alt := a' } := by obtain ⟨b, rfl⟩ := h; exact ⟨b, by rw [e]⟩
omit S in
theorem EI.argss {x x' : Ins} (h : EI x x') {a a' : List ByteArray} (e : a = a') : EI { x with args := a } { x' with args := a' } := by obtain ⟨b, rfl⟩ := h; exact ⟨b, by rw [e]⟩
omit S in
theorem EI.dsts {x x' : Ins} (h : EI x x') {a a' : ByteArray} (e : a = a') : EI { x with dst := a } { x' with dst := a' } := by obtain ⟨b, rfl⟩ := h; exact ⟨b, by rw [e]⟩
theorem sim_phi (n : Nat) {x x' : Ins} (h : EI x x') : SimR d EI (phiV s l n x) (phiV s' l' (d + n) x') := by
  unfold phiV
  by_cases h1 : (txV s l n).data.toList = [91]
  · have := tx_lt h1
    have hlen := S.len
    rw [needV, needV, S.text, if_pos h1, if_pos h1]
    simp only [bnd]
    show SimR d EI _ (closeV s' l' 93 (pairsF s' l' (l'.length + 1) (d + (n + 1)) 0 { x' with kind := 3 }))
    rw [pairsF_fuel (s := s') (l := l') (l'.length + 1) (l.length + 1) (d + (n + 1)) 0 _ (by omega) (by omega) (by omega)]
    exact sim_close S (sim_pairs S _ _ _ _ _ (h.kind 3))
  · rw [needV, needV, S.text, if_neg h1, if_neg h1]
    exact ⟨_, rfl⟩
theorem sim_word (n : Nat) (w : List UInt8) {x x' : Ins} (h : EI x x') : SimR d EI (wordV s l n x w) (wordV s' l' (d + n) x' w) := by
  unfold wordV
  split
  · unfold constV
    rw [show d + n + 1 = d + (n + 1) from rfl, S.kind, S.text]
    split
    · obtain ⟨b, rfl⟩ := h
      exact ⟨_, rfl, b, rfl⟩
    · exact ⟨_, rfl⟩
  split
  · exact (sim_ref S (n + 1) (h.kind 4)).bind fun n y y' hy => sim_one S n hy
  split
  · exact (sim_ref S (n + 1) (h.kind 5)).bind fun n y y' hy => sim_one S n hy
  split
  · exact sim_ref S (n + 1) (h.kind 8)
  split
  · exact (sim_ref S (n + 1) (h.kind 7)).bind fun n y y' hy => (sim_names S n).bind fun n o o' ho => ⟨_, rfl, hy.argss ho⟩
  split
  · exact (sim_one S (n + 1) (h.kind 10)).bind fun n y y' hy => sim_ref S n hy
  split
  · exact sim_phi S (n + 1) h
  · exact ⟨_, rfl⟩
theorem sim_value (n : Nat) {x x' : Ins} (h : EI x x') : SimR d EI (valueV s l n x) (valueV s' l' (d + n) x') := by
  unfold valueV
  rw [S.text]
  split
  · exact (sim_arg S (n + 1) (h.oper 2 _)).bind fun n y y' hy => sim_arg S n hy
  · exact sim_word S n _ h
theorem sim_act {w : List UInt8} {f : Nat → Ins → Except (Int × Int) (Nat × Ins)} (hf : actV s l w = some f) : ∃ f', actV s' l' w = some f' ∧ ∀ n x x', EI x x' → SimR d EI (f n x) (f' (d + n) x') := by
  unfold actV at hf ⊢
  split at hf
  · rename_i e
    obtain rfl := Option.some.inj hf
    refine ⟨_, if_pos e, fun n x x' h => ?_⟩
    exact (sim_nm S n).bind fun n a a' ha => (sim_arg S n ((h.kind 6).refs ha)).bind fun n y y' hy => (sim_arg S n hy).bind fun n y y' hy => ⟨_, rfl, hy⟩
  rename_i e1
  rw [if_neg e1]
  split at hf
  · rename_i e
    obtain rfl := Option.some.inj hf
    refine ⟨_, if_pos e, fun n x x' h => ?_⟩
    exact (sim_nm S n).bind fun n a a' ha => (sim_arg S n ((h.kind 9).refs ha)).bind fun n y y' hy => ⟨_, rfl, hy⟩
  rename_i e2
  rw [if_neg e2]
  split at hf
  · rename_i e
    obtain rfl := Option.some.inj hf
    refine ⟨_, if_pos e, fun n x x' h => ?_⟩
    exact (sim_nm S n).bind fun n a a' ha => ⟨_, rfl, (h.kind 11).refs ha⟩
  rename_i e3
  rw [if_neg e3]
  split at hf
  · rename_i e
    obtain rfl := Option.some.inj hf
    refine ⟨_, if_pos e, fun n x x' h => ?_⟩
    exact (sim_arg S n (h.kind 12)).bind fun n y y' hy => (sim_nm S n).bind fun n a a' ha => (sim_nm S n).bind fun n b b' hb => ⟨_, rfl, (hy.refs ha).alts hb⟩
  rename_i e4
  rw [if_neg e4]
  split at hf
  · rename_i e
    obtain rfl := Option.some.inj hf
    refine ⟨_, if_pos e, fun n x x' h => ?_⟩
    exact (sim_arg S n (h.kind 13)).bind fun n y y' hy => ⟨_, rfl, hy⟩
  · cases hf
omit S in
theorem act_iff {w : List UInt8} : (actV s l w).isNone = (actV s' l' w).isNone := by
  unfold actV
  split
  · rfl
  split
  · rfl
  split
  · rfl
  split
  · rfl
  split
  · rfl
  · rfl
/-- An instruction counts for one. -/
def tagI (r : Except (Int × Int) (Nat × Ins)) (c : Nat) : Except (Int × Int) (Nat × (Nat × Ins)) := bnd r fun n x => .ok (n, (c + 1, x))
theorem sim_instr (n c : Nat) : SimC d c0 EI (tagI (instrV s l n c) c) (tagI (instrV s' l' (d + n) (c0 + c)) (c0 + c)) := by
  unfold tagI instrV
  rw [S.kind, show d + n + 1 = d + (n + 1) from rfl, S.text, S.text, show (actV s' l' (txV s l n).data.toList).isNone = (actV s l (txV s l n).data.toList).isNone from act_iff.symm]
  by_cases h1 : isV l n 1 = false ∧ (actV s l (txV s l n).data.toList).isNone = true
  · rw [if_pos h1, if_pos h1]; exact fun _ => ⟨_, rfl⟩
  rw [if_neg h1, if_neg h1]
  by_cases h2 : isV l n 1 = true ∧ ¬ (txV s l (n + 1)).data.toList = [61]
  · rw [if_pos h2, if_pos h2]; exact fun _ => ⟨_, rfl⟩
  rw [if_neg h2, if_neg h2]
  by_cases h3 : 4096 ≤ c
  · rw [if_pos h3, if_pos (by omega)]; exact fun _ => ⟨_, rfl⟩
  rw [if_neg h3]
  have hz : EI (ins0 (atV s l n)) (ins0 (atV s' l' (d + n))) := ⟨_, rfl⟩
  have key : ∀ (r r' : Except (Int × Int) (Nat × Ins)), SimR d EI r r' → SimC d c0 EI (bnd r fun n x => .ok (n, (c + 1, x))) (bnd (if 4096 ≤ c0 + c then .error (atV s' l' (d + n), 3) else r') fun n x => .ok (n, (c0 + c + 1, x))) := fun r r' hr => by
    rcases r with ⟨a, e⟩ | ⟨n1, x⟩
    · obtain ⟨a', rfl⟩ := hr
      intro h0
      rw [if_neg (by omega)]
      exact ⟨a', rfl⟩
    · obtain ⟨x', rfl, hx⟩ := hr
      unfold SimC
      simp only [bnd]
      by_cases h4 : 4096 ≤ c0 + c
      · rw [if_pos h4, if_neg (by omega)]
        exact ⟨_, rfl⟩
      · rw [if_neg h4, if_pos (by omega)]
        exact ⟨x', rfl, hx⟩
  rcases ha : actV s l (txV s l n).data.toList with _ | f
  · have ha' : actV s' l' (txV s l n).data.toList = none := by
      have := act_iff (s := s) (l := l) (s' := s') (l' := l') (w := (txV s l n).data.toList)
      rw [ha] at this
      simpa using this.symm
    rw [ha']
    exact key _ _ ((sim_nm S n).bind fun n1 a a' hd => (sim_need S n1 61).bind fun n2 _ _ _ => sim_value S n2 (hz.dsts hd))
  · obtain ⟨f', hf', hs⟩ := sim_act S ha
    rw [hf']
    exact key _ _ (hs (n + 1) _ _ hz)
theorem sim_beg (n : Nat) : begB s' l' (d + n) = begB s l n := by
  unfold begB
  rw [S.kind, show d + n + 1 = d + (n + 1) from rfl, S.text]
def EC (xs xs' : List Ins) : Prop := xs.map erI = xs'.map erI
omit S in
theorem tag_ok {r : Except (Int × Int) (Nat × Ins)} {c n c' : Nat} {x : Ins} (h : tagI r c = .ok (n, (c', x))) : r = .ok (n, x) ∧ c' = c + 1 := by
  rcases r with e | ⟨n1, y⟩
  · cases h
  · simp only [tagI, bnd, Except.ok.injEq, Prod.mk.injEq] at h
    obtain ⟨rfl, rfl, rfl⟩ := h
    exact ⟨rfl, rfl⟩
omit S in
theorem codeF_tag (f n c : Nat) (xs : List Ins) : codeF s l (f + 1) n c xs = if (txV s l n).data.toList = [125] ∨ begB s l n = true then .ok (n, (c, xs)) else bnd (tagI (instrV s l n c) c) fun n q => codeF s l f n q.1 (xs ++ [q.2]) := by
  rw [codeF]
  split
  · rfl
  · unfold tagI
    rcases instrV s l n c with e | ⟨n1, x⟩ <;> rfl
theorem sim_code : ∀ (f n c : Nat) (xs xs' : List Ins), n ≤ l.length → c ≤ 4096 → c0 + c ≤ 4096 → EC xs xs' → SimC d c0 EC (codeF s l f n c xs) (codeF s' l' f (d + n) (c0 + c) xs')
  | 0, n, c, xs, xs', _, _, _, h => fun _ => ⟨_, rfl⟩
  | f + 1, n, c, xs, xs', hn, hc, hcc, h => by
    rw [codeF_tag, codeF_tag, S.text, sim_beg S]
    split
    · unfold SimC
      dsimp only
      rw [if_pos hcc]
      exact ⟨_, rfl, h⟩
    · rcases hV : tagI (instrV s l n c) c with ⟨a, e⟩ | ⟨n1, c1, y⟩
      · have := sim_instr (c0 := c0) S n c
        rw [hV] at this
        exact fun h0 => by obtain ⟨a', e'⟩ := this h0; rw [e']; exact ⟨a', rfl⟩
      · obtain ⟨hI, rfl⟩ := tag_ok hV
        have h1 := instr_up _ _ hI
        have h2 := instr_c hI
        have hs := sim_instr (c0 := c0) S n c
        rw [hV] at hs
        unfold SimC at hs
        dsimp only at hs
        show SimC d c0 EC (codeF s l f n1 (c + 1) (xs ++ [y])) _
        split at hs
        · obtain ⟨y', e', hy⟩ := hs
          rw [e']
          exact sim_code f n1 (c + 1) (xs ++ [y]) (xs' ++ [y']) h1.2 (by omega) (by omega) (by unfold EC at h ⊢; rw [List.map_append, List.map_append, h, List.map_cons, List.map_cons, hy.er])
        · obtain ⟨a', e'⟩ := hs
          rw [e']
          show SimC d c0 EC _ (.error (a', 3))
          rcases hK : codeF s l f n1 (c + 1) (xs ++ [y]) with ⟨a2, e2⟩ | ⟨n2, c2, ys⟩
          · exact fun h0 => by omega
          · have h3 := code_up h1.2 (by omega) hK
            have h4 : c + 1 ≤ c2 := code_mono hK
            unfold SimC
            dsimp only
            rw [if_neg (by omega)]
            exact ⟨a', rfl⟩
/-! ### blocks, functions, arrays, programs -/
omit S in
theorem blockV_bnd {n c : Nat} : blockV s l n c = bnd (nmV s l n) fun n1 nm => bnd (needV s l n1 58) fun n2 _ => bnd (codeF s l 4098 n2 c []) fun n3 r => .ok (n3, (r.1, ⟨nm, r.2, atV s l n⟩)) := rfl
def EB (b b' : Blk) : Prop := erB b = erB b'
omit S in
theorem simR_le {p : Nat → α → Prop} {r r' : Except (Int × Int) (Nat × α)} {k k' : Nat → α → Except (Int × Int) (Nat × (Nat × β))} (h1 : SimR d E r r') (hp : ∀ n x, r = .ok (n, x) → p n x) (h2 : ∀ n x x', p n x → E x x' → SimC d c0 E2 (k n x) (k' (d + n) x')) : SimC d c0 E2 (bnd r k) (bnd r' k') := by
  rcases r with ⟨a, e⟩ | ⟨n, x⟩
  · obtain ⟨a', rfl⟩ := h1
    exact fun _ => ⟨a', rfl⟩
  · obtain ⟨x', rfl, hx⟩ := h1
    exact h2 n x x' (hp n x rfl) hx
theorem sim_block (n c : Nat) (hc : c ≤ 4096) (hcc : c0 + c ≤ 4096) : SimC d c0 EB (blockV s l n c) (blockV s' l' (d + n) (c0 + c)) := by
  rw [blockV_bnd, blockV_bnd]
  refine SimR.bindC (sim_nm S n) fun n1 a a' ha => simR_le (p := fun n _ => n ≤ l.length) (sim_need S n1 58) (fun n2 x h => (need_up _ _ h).2) fun n2 _ _ hn2 _ => ?_
  refine SimC.bind (E := EC) (sim_code S 4098 n2 c [] [] hn2 hc hcc rfl) (fun n3 c3 x h => (code_up hn2 hc h).2.2) (fun n3 c3 x n4 c4 y _ h => by simp only [Except.ok.injEq, Prod.mk.injEq] at h; omega) fun n3 c3 x x' _ h3 hx => ?_
  unfold SimC
  dsimp only
  rw [if_pos h3]
  exact ⟨_, rfl, by unfold EB erB; rw [ha, show x.map erI = x'.map erI from hx]⟩
def EBs (bs bs' : List Blk) : Prop := bs.map erB = bs'.map erB
omit S in
theorem EBs.add {bs bs' : List Blk} {b b' : Blk} (h : EBs bs bs') (hb : EB b b') : EBs (bs ++ [b]) (bs' ++ [b']) := by
  unfold EBs at h ⊢
  rw [List.map_append, List.map_append, h, List.map_cons, List.map_cons, show erB b = erB b' from hb]
omit S in
theorem block_mono {n c n' c' : Nat} {b : Blk} (h : blockV s l n c = .ok (n', (c', b))) : c' = c + b.code.length := by
  rw [blockV_bnd] at h
  rcases h1 : nmV s l n with e | ⟨n1, nm⟩
  · rw [h1] at h; cases h
  rw [h1] at h
  simp only [bnd] at h
  rcases h2 : needV s l n1 58 with e | ⟨n2, u⟩
  · rw [h2] at h; cases h
  rw [h2] at h
  simp only at h
  rcases h3 : codeF s l 4098 n2 c [] with e | ⟨n3, c3, ys⟩
  · rw [h3] at h; cases h
  rw [h3] at h
  simp only [Except.ok.injEq, Prod.mk.injEq] at h
  obtain ⟨_, rfl, rfl⟩ := h
  have := (code_count h3).1
  simpa using this
def codeN (bs : List Blk) : Nat := (bs.map fun b => b.code.length).sum
omit S in
theorem blocks_count : ∀ {f n c : Nat} {bs : List Blk} {n' c' : Nat} {ys : List Blk}, blocksF s l f n c bs = .ok (n', (c', ys)) → c' + codeN bs = c + codeN ys ∧ c ≤ c'
  | 0, n, c, bs, n', c', ys, h => by simp [blocksF] at h
  | f + 1, n, c, bs, n', c', ys, h => by
    rw [blocksF] at h
    split at h
    · split at h
      · cases h
      · rcases hV : blockV s l n c with e | ⟨n1, c1, b⟩
        · rw [hV] at h; cases h
        · rw [hV] at h
          have hb := block_mono hV
          obtain ⟨h1, h2⟩ := blocks_count (show blocksF s l f n1 c1 (bs ++ [b]) = _ from h)
          unfold codeN at h1 ⊢
          rw [List.map_append, List.sum_append] at h1
          simp only [List.map_cons, List.map_nil, List.sum_cons, List.sum_nil] at h1
          omega
    · simp only [Except.ok.injEq, Prod.mk.injEq] at h
      obtain ⟨rfl, rfl, rfl⟩ := h
      exact ⟨rfl, Nat.le_refl _⟩
theorem sim_blocks : ∀ (f n c : Nat) (bs bs' : List Blk), n ≤ l.length → c ≤ 4096 → c0 + c ≤ 4096 → EBs bs bs' → SimC d c0 EBs (blocksF s l f n c bs) (blocksF s' l' f (d + n) (c0 + c) bs')
  | 0, n, c, bs, bs', _, _, _, h => fun _ => ⟨_, rfl⟩
  | f + 1, n, c, bs, bs', hn, hc, hcc, h => by
    have hlen : bs.length = bs'.length := by have := congrArg List.length h; simpa using this
    rw [blocksF, blocksF, sim_beg S, ← hlen]
    split
    · split
      · exact fun _ => ⟨_, rfl⟩
      · refine SimC.bind (E := EB) (sim_block S n c hc hcc) (fun n3 c3 x h => (block_up hc h).2.2) (fun n3 c3 x n4 c4 y _ hk => (blocks_count hk).2) fun n3 c3 x x' h3 hcc3 hx => ?_
        exact sim_blocks f n3 c3 _ _ (block_up hc h3).2.1 (block_up hc h3).2.2 hcc3 (h.add hx)
    · unfold SimC
      dsimp only
      rw [if_pos hcc]
      exact ⟨_, rfl, h⟩
def EF (f f' : Fun) : Prop := erF f = erF f'
omit S in
theorem funcV_bnd {n c : Nat} : funcV s l n c = bnd (nmV s l (n + 1)) fun n1 nm => bnd (namesV s l n1) fun n2 ps => bnd (needV s l n2 123) fun n3 _ => bnd (blockV s l n3 c) fun n4 r =>
    bnd (blocksF s l 65 n4 r.1 [r.2]) fun n5 q => bnd (needV s l n5 125) fun n6 _ => .ok (n6, (q.1, ⟨nm, ps, q.2, atV s l n⟩)) := rfl
def funN (f : Fun) : Nat := codeN f.blocks
omit S in
theorem func_tail {n4 c4 : Nat} {b : Blk} {nm : ByteArray} {ps : List ByteArray} {a : Int} {n' c' : Nat} {f : Fun}
    (h : (bnd (blocksF s l 65 n4 c4 [b]) fun n5 q => bnd (needV s l n5 125) fun n6 _ => .ok (n6, (q.1, (⟨nm, ps, q.2, a⟩ : Fun)))) = .ok (n', (c', f))) : c' + b.code.length = c4 + funN f ∧ c4 ≤ c' := by
  rcases h5 : blocksF s l 65 n4 c4 [b] with e | ⟨n5, c5, q⟩
  · rw [h5] at h; cases h
  rw [h5] at h
  simp only [bnd] at h
  rcases h6 : needV s l n5 125 with e | ⟨n6, u⟩
  · rw [h6] at h; cases h
  rw [h6] at h
  simp only [Except.ok.injEq, Prod.mk.injEq] at h
  obtain ⟨_, rfl, rfl⟩ := h
  have := blocks_count h5
  unfold funN
  unfold codeN at this ⊢
  simp only [List.map_cons, List.map_nil, List.sum_cons, List.sum_nil] at this
  omega
omit S in
theorem func_count {n c n' c' : Nat} {f : Fun} (h : funcV s l n c = .ok (n', (c', f))) : c' = c + funN f := by
  rw [funcV_bnd] at h
  rcases h1 : nmV s l (n + 1) with e | ⟨n1, nm⟩
  · rw [h1] at h; cases h
  rw [h1] at h
  simp only [bnd] at h
  rcases h2 : namesV s l n1 with e | ⟨n2, ps⟩
  · rw [h2] at h; cases h
  rw [h2] at h
  simp only at h
  rcases h3 : needV s l n2 123 with e | ⟨n3, u⟩
  · rw [h3] at h; cases h
  rw [h3] at h
  simp only at h
  rcases h4 : blockV s l n3 c with e | ⟨n4, c4, b⟩
  · rw [h4] at h; cases h
  rw [h4] at h
  have h5 := func_tail (show (bnd (blocksF s l 65 n4 c4 [b]) fun n5 q => bnd (needV s l n5 125) fun n6 _ => .ok (n6, (q.1, (⟨nm, ps, q.2, atV s l n⟩ : Fun)))) = _ from h)
  have := block_mono h4
  omega
theorem sim_func (n c : Nat) (hc : c ≤ 4096) (hcc : c0 + c ≤ 4096) : SimC d c0 EF (funcV s l n c) (funcV s' l' (d + n) (c0 + c)) := by
  rw [funcV_bnd, funcV_bnd]
  refine SimR.bindC (sim_nm S (n + 1)) fun n1 nm nm' hnm => SimR.bindC (sim_names S n1) fun n2 ps ps' hps => SimR.bindC (sim_need S n2 123) fun n3 _ _ _ => ?_
  refine SimC.bind (E := EB) (sim_block S n3 c hc hcc) (fun n4 c4 x h => (block_up hc h).2.2) (fun n4 c4 x n5 c5 y _ h => (func_tail h).2) fun n4 c4 b b' h4 hcc4 hb => ?_
  obtain ⟨u1, u2, u3⟩ := block_up hc h4
  refine SimC.bind (E := EBs) (sim_blocks S 65 n4 c4 [b] [b'] u2 u3 hcc4 (by unfold EBs; rw [List.map_cons, List.map_cons, show erB b = erB b' from hb])) (fun n5 c5 x h => (blocks_up u2 u3 h).2.2) (fun n5 c5 x n6 c6 y _ h => ?_) fun n5 c5 q q' h5 hcc5 hq => ?_
  · rcases h6 : needV s l n5 125 with e | ⟨n7, u⟩
    · rw [h6] at h; cases h
    · rw [h6] at h
      simp only [bnd, Except.ok.injEq, Prod.mk.injEq] at h
      omega
  · refine SimR.bindC (sim_need S n5 125) fun n6 _ _ _ => ?_
    unfold SimC
    dsimp only
    rw [if_pos hcc5]
    exact ⟨_, rfl, by unfold EF erF; rw [hnm, hps, show q.map erB = q'.map erB from hq]⟩
def EA (a a' : Arr) : Prop := erA a = erA a'
theorem sim_arr (n : Nat) : SimR d EA (arrV s l n) (arrV s' l' (d + n)) := by
  unfold arrV
  refine (sim_nm S (n + 1)).bind fun n1 nm nm' hnm => ?_
  rw [S.kind, S.text]
  split
  · split
    · exact ⟨_, rfl⟩
    · refine (sim_nm S (n1 + 1)).bind fun n2 lv lv' hlv => ⟨_, rfl, ?_⟩
      unfold EA erA
      rw [hnm, hlv]
  · exact ⟨_, rfl⟩
end
end Go.Proofs.YteeofakohenpoaaDoor

/- Programs whose tokens are alike. -/
namespace Go.Proofs.YteeofakohenpoaaDoor
open Go.Sx
set_option linter.unusedVariables false
set_option linter.unusedSimpArgs false
set_option maxRecDepth 100000

def progN (fs : List Fun) : Nat := (fs.map funN).sum
theorem progN_add (fs : List Fun) (f : Fun) : progN (fs ++ [f]) = progN fs + funN f := by
  unfold progN
  rw [List.map_append, List.sum_append]
  simp
/-- Of a program that is read: it grows, and stays within the bounds. -/
theorem prog_grow {s : ByteArray} {l : List Tok} : ∀ {f n c : Nat} {p q : Prg} {n' : Nat}, c ≤ 4096 → c = progN p.funcs → p.arrays.length ≤ 16 → p.funcs.length ≤ 64 → progF s l f n c p = .ok (n', q) →
    progN p.funcs ≤ progN q.funcs ∧ p.arrays.length ≤ q.arrays.length ∧ p.funcs.length ≤ q.funcs.length ∧ progN q.funcs ≤ 4096 ∧ q.arrays.length ≤ 16 ∧ q.funcs.length ≤ 64 ∧ l.length ≤ n'
  | 0, n, c, p, q, n', hc, hcp, h1, h2, h => by simp [progF] at h
  | f + 1, n, c, p, q, n', hc, hcp, h1, h2, h => by
    rw [progF] at h
    split at h
    · split at h
      · split at h
        · cases h
        · rename_i h6
          rcases hV : arrV s l n with e | ⟨n1, x⟩
          · rw [hV] at h; cases h
          · rw [hV] at h
            have := prog_grow (p := ⟨p.arrays ++ [x], p.funcs⟩) hc hcp (by rw [List.length_append]; simp only [List.length_cons, List.length_nil]; omega) h2 (show progF s l f n1 c _ = _ from h)
            simp only [List.length_append, List.length_cons, List.length_nil] at this
            omega
      · split at h
        · split at h
          · cases h
          · rename_i h6
            rcases hV : funcV s l n c with e | ⟨n1, c1, x⟩
            · rw [hV] at h; cases h
            · rw [hV] at h
              have hf := func_count hV
              have hu := func_up hc hV
              have := prog_grow (p := ⟨p.arrays, p.funcs ++ [x]⟩) hu.2.2 (by rw [progN_add]; omega) h1 (by rw [List.length_append]; simp only [List.length_cons, List.length_nil]; omega) (show progF s l f n1 c1 _ = _ from h)
              simp only [List.length_append, List.length_cons, List.length_nil, progN_add] at this
              omega
        · cases h
    · simp only [Except.ok.injEq, Prod.mk.injEq] at h
      obtain ⟨rfl, rfl⟩ := h
      omega
theorem progF_fuel {s : ByteArray} {l : List Tok} : ∀ (f g n c : Nat) (p : Prg), c ≤ 4096 → l.length + 1 ≤ f + n → l.length + 1 ≤ g + n → n ≤ l.length → progF s l f n c p = progF s l g n c p
  | 0, _, n, c, p, _, h, _, hn => by omega
  | _, 0, n, c, p, _, _, h, hn => by omega
  | f + 1, g + 1, n, c, p, hc, h1, h2, hn => by
    rw [progF, progF]
    split
    · split
      · split
        · rfl
        · rcases hV : arrV s l n with e | ⟨n1, x⟩
          · rfl
          · have h3 := arr_up hV
            exact progF_fuel f g n1 c _ hc (by omega) (by omega) h3.2
      · split
        · split
          · rfl
          · rcases hV : funcV s l n c with e | ⟨n1, c1, x⟩
            · rfl
            · have h3 := func_up hc hV
              exact progF_fuel f g n1 c1 _ h3.2.2 (by omega) (by omega) h3.2.1
        · rfl
    · rfl
section
variable {s : ByteArray} {l : List Tok} {s' : ByteArray} {l' : List Tok} {d c0 : Nat} (S : Sim s l s' l' d) (A0 : List Arr) (F0 : List Fun)
/-- Behind A0, F0 and c0 instructions. -/
def SimP (d c0 : Nat) (A0 : List Arr) (F0 : List Fun) (r r' : Except (Int × Int) (Nat × Prg)) : Prop :=
  match r with
  | .ok (n, q) => if c0 + progN q.funcs ≤ 4096 ∧ A0.length + q.arrays.length ≤ 16 ∧ F0.length + q.funcs.length ≤ 64 then ∃ q', r' = .ok (d + n, q') ∧ q'.arrays.map erA = A0 ++ q.arrays.map erA ∧ q'.funcs.map erF = F0 ++ q.funcs.map erF else ∃ a', r' = .error (a', 3)
  | .error (a, e) => c0 = 0 → A0 = [] → F0 = [] → ∃ a', r' = .error (a', e)
include S in
theorem sim_prog : ∀ (f n c : Nat) (p p' : Prg), n ≤ l.length → c ≤ 4096 → c = progN p.funcs → c0 + c ≤ 4096 → p.arrays.length ≤ 16 → p.funcs.length ≤ 64 → A0.length + p.arrays.length ≤ 16 → F0.length + p.funcs.length ≤ 64 →
    p'.arrays.map erA = A0 ++ p.arrays.map erA → p'.funcs.map erF = F0 ++ p.funcs.map erF → SimP d c0 A0 F0 (progF s l f n c p) (progF s' l' f (d + n) (c0 + c) p')
  | 0, n, c, p, p', _, _, _, _, _, _, _, _, _, _ => fun _ _ _ => ⟨_, rfl⟩
  | f + 1, n, c, p, p', hn, hc, hcp, hcc, h1, h2, h3, h4, h5, h6 => by
    have la : p'.arrays.length = A0.length + p.arrays.length := by have := congrArg List.length h5; simpa using this
    have lf : p'.funcs.length = F0.length + p.funcs.length := by have := congrArg List.length h6; simpa using this
    have hlen := S.len
    rw [progF, progF, S.text, la, lf]
    by_cases hlt : n < l.length
    rotate_left
    · have hlt' : ¬ d + n < l'.length := by omega
      rw [if_neg hlt, if_neg hlt']
      unfold SimP
      dsimp only
      rw [if_pos ⟨by omega, h3, h4⟩]
      exact ⟨p', rfl, h5, h6⟩
    have hlt' : d + n < l'.length := by omega
    rw [if_pos hlt, if_pos hlt']
    by_cases w1 : (txV s l n).data.toList = [97, 114, 114, 97, 121]
    · rw [if_pos w1, if_pos w1]
      by_cases k1 : 16 ≤ p.arrays.length
      · rw [if_pos k1, if_pos (by omega)]
        exact fun _ _ _ => ⟨_, rfl⟩
      rw [if_neg k1]
      have hs := sim_arr S n
      rcases hV : arrV s l n with ⟨a, e⟩ | ⟨n1, x⟩
      · rw [hV] at hs
        obtain ⟨a', e'⟩ := hs
        intro h0 hA hF
        rw [if_neg (by rw [hA] at h3 ⊢; simp only [List.length_nil]; omega), e']
        exact ⟨a', rfl⟩
      · rw [hV] at hs
        obtain ⟨x', e', hx⟩ := hs
        have hu := arr_up hV
        show SimP d c0 A0 F0 (progF s l f n1 c ⟨p.arrays ++ [x], p.funcs⟩) _
        by_cases k2 : 16 ≤ A0.length + p.arrays.length
        · rw [if_pos k2]
          rcases hK : progF s l f n1 c ⟨p.arrays ++ [x], p.funcs⟩ with ⟨a2, e2⟩ | ⟨n2, q⟩
          · intro h0 hA hF
            rw [hA] at k2
            simp only [List.length_nil] at k2
            omega
          · have hg := prog_grow (p := ⟨p.arrays ++ [x], p.funcs⟩) hc hcp (by rw [List.length_append]; simp only [List.length_cons, List.length_nil]; omega) h2 hK
            simp only [List.length_append, List.length_cons, List.length_nil] at hg
            unfold SimP
            dsimp only
            rw [if_neg (by omega)]
            exact ⟨_, rfl⟩
        · rw [if_neg k2, e']
          exact sim_prog f n1 c ⟨p.arrays ++ [x], p.funcs⟩ ⟨p'.arrays ++ [x'], p'.funcs⟩ hu.2 hc hcp hcc (by rw [List.length_append]; simp only [List.length_cons, List.length_nil]; omega) h2 (by rw [List.length_append]; simp only [List.length_cons, List.length_nil]; omega) h4
            (by show (p'.arrays ++ [x']).map erA = A0 ++ (p.arrays ++ [x]).map erA; rw [List.map_append, List.map_append, h5, List.append_assoc, List.map_cons, List.map_cons, show erA x = erA x' from hx]) h6
    rw [if_neg w1, if_neg w1]
    by_cases w2 : (txV s l n).data.toList = [102, 110]
    · rw [if_pos w2, if_pos w2]
      by_cases k1 : 64 ≤ p.funcs.length
      · rw [if_pos k1, if_pos (by omega)]
        exact fun _ _ _ => ⟨_, rfl⟩
      rw [if_neg k1]
      have hs := sim_func (c0 := c0) S n c hc hcc
      rcases hV : funcV s l n c with ⟨a, e⟩ | ⟨n1, c1, x⟩
      · rw [hV] at hs
        intro h0 hA hF
        obtain ⟨a', e'⟩ := hs h0
        rw [if_neg (by rw [hF] at h4 ⊢; simp only [List.length_nil]; omega), e']
        exact ⟨a', rfl⟩
      · rw [hV] at hs
        have hu := func_up hc hV
        have hf := func_count hV
        show SimP d c0 A0 F0 (progF s l f n1 c1 ⟨p.arrays, p.funcs ++ [x]⟩) _
        have big : (64 ≤ F0.length + p.funcs.length ∨ 4096 < c0 + c1) → (∃ a', (if 64 ≤ F0.length + p.funcs.length then Except.error (atV s' l' (d + n), 3) else bnd (funcV s' l' (d + n) (c0 + c)) fun n r => progF s' l' f n r.1 ⟨p'.arrays, p'.funcs ++ [r.2]⟩) = .error (a', 3)) → SimP d c0 A0 F0 (progF s l f n1 c1 ⟨p.arrays, p.funcs ++ [x]⟩) (if 64 ≤ F0.length + p.funcs.length then Except.error (atV s' l' (d + n), 3) else bnd (funcV s' l' (d + n) (c0 + c)) fun n r => progF s' l' f n r.1 ⟨p'.arrays, p'.funcs ++ [r.2]⟩) := fun hb ⟨a', e'⟩ => by
          rw [e']
          rcases hK : progF s l f n1 c1 ⟨p.arrays, p.funcs ++ [x]⟩ with ⟨a2, e2⟩ | ⟨n2, q⟩
          · intro h0 hA hF
            rw [hF] at hb
            simp only [List.length_nil] at hb
            omega
          · have hg := prog_grow (p := ⟨p.arrays, p.funcs ++ [x]⟩) hu.2.2 (by rw [progN_add]; omega) h1 (by rw [List.length_append]; simp only [List.length_cons, List.length_nil]; omega) hK
            simp only [List.length_append, List.length_cons, List.length_nil, progN_add] at hg
            unfold SimP
            dsimp only
            rw [if_neg (by omega)]
            exact ⟨a', rfl⟩
        unfold SimC at hs
        dsimp only at hs
        by_cases k2 : 64 ≤ F0.length + p.funcs.length
        · exact big (.inl k2) ⟨_, if_pos k2⟩
        · split at hs
          · rename_i k3
            obtain ⟨x', e', hx⟩ := hs
            rw [if_neg k2, e']
            exact sim_prog f n1 c1 ⟨p.arrays, p.funcs ++ [x]⟩ ⟨p'.arrays, p'.funcs ++ [x']⟩ hu.2.1 hu.2.2 (by rw [progN_add]; omega) k3 h1 (by rw [List.length_append]; simp only [List.length_cons, List.length_nil]; omega) h3 (by rw [List.length_append]; simp only [List.length_cons, List.length_nil]; omega) h5
              (by show (p'.funcs ++ [x']).map erF = F0 ++ (p.funcs ++ [x]).map erF; rw [List.map_append, List.map_append, h6, List.append_assoc, List.map_cons, List.map_cons, show erF x = erF x' from hx])
          · rename_i k3
            obtain ⟨a', e'⟩ := hs
            exact big (.inr (by omega)) ⟨a', by rw [if_neg k2, e']; rfl⟩
    · rw [if_neg w2, if_neg w2]
      exact fun _ _ _ => ⟨_, rfl⟩
end
/-! ### alike but for the places -/
theorem er_get {α β : Type} (g : α → β) {a b : List α} (h : a.map g = b.map g) (d : α) (i : Nat) : g (a.getD i d) = g (b.getD i d) := by
  have h1 := congrArg (fun l => l[i]?) h
  simp only [List.getElem?_map] at h1
  rw [List.getD_eq_getElem?_getD, List.getD_eq_getElem?_getD]
  cases ha : a[i]? <;> cases hb : b[i]? <;> rw [ha, hb] at h1 <;> simp_all
theorem er_len {α β : Type} (g : α → β) {a b : List α} (h : a.map g = b.map g) : a.length = b.length := by have := congrArg List.length h; simpa using this
theorem sameInsB_er {a b : Ins} (h : erI a = erI b) : sameInsB a b false = true := by
  obtain ⟨a1, a2, a3, a4, a5, a6, a7, a8, a9⟩ := a
  obtain ⟨b1, b2, b3, b4, b5, b6, b7, b8, b9⟩ := b
  simp only [erI, Ins.mk.injEq] at h
  obtain ⟨rfl, rfl, rfl, rfl, rfl, rfl, rfl, rfl, _⟩ := h
  unfold sameInsB
  simp [textsB_self]
theorem sameBlkB_er {a b : Blk} (h : erB a = erB b) : sameBlkB a b false = true := by
  simp only [erB, Blk.mk.injEq] at h
  obtain ⟨h1, h2, _⟩ := h
  unfold sameBlkB
  rw [allF_true (f := sameCodeB a.code b.code false) fun j => sameInsB_er (er_get erI h2 (ins0 0) j), decide_eq_true (er_len erI h2), h1]
  simp
theorem sameFunB_er {a b : Fun} (h : erF a = erF b) : sameFunB a b false = true := by
  simp only [erF, Fun.mk.injEq] at h
  obtain ⟨h1, h2, h3, _⟩ := h
  unfold sameFunB
  rw [allF_true fun j => sameBlkB_er (er_get erB h3 blk0 j), decide_eq_true (er_len erB h3), h1, h2, textsB_self]
  simp
theorem sameArrB_er {a b : Arr} (h : erA a = erA b) : sameArrB a b false = true := by
  simp only [erA, Arr.mk.injEq] at h
  obtain ⟨h1, h2, h3, _⟩ := h
  unfold sameArrB
  rw [h1, h2, h3]
  simp
theorem sameB_er {a b : Prg} (h1 : a.arrays.map erA = b.arrays.map erA) (h2 : a.funcs.map erF = b.funcs.map erF) : sameB a b false = true := by
  unfold sameB
  rw [allF_true fun j => sameArrB_er (er_get erA h1 arr0 j), allF_true fun j => sameFunB_er (er_get erF h2 fun0 j), decide_eq_true (er_len erA h1), decide_eq_true (er_len erF h2)]
  rfl
/-- Tokens of the same kinds and texts: the same program, the same error. -/
theorem parse_sim {s t : ByteArray} (hs : (allV s).2.2 = 0) (ht : (allV t).2.2 = 0) (S : Sim s (allV s).1 t (allV t).1 0) : (parseV s).2.2 = (parseV t).2.2 ∧ sameB (parseV s).1 (parseV t).1 false = true := by
  unfold parseV
  rw [if_pos hs, if_pos ht]
  have hlen := S.len
  have h := sim_prog (c0 := 0) S [] [] ((allV s).1.length + 1) 0 0 ⟨[], []⟩ ⟨[], []⟩ (Nat.zero_le _) (Nat.zero_le _) rfl (Nat.zero_le _) (Nat.zero_le _) (Nat.zero_le _) (Nat.zero_le _) (Nat.zero_le _) rfl rfl
  rw [show (0 + 0 : Nat) = 0 from rfl, show (allV s).1.length + 1 = (allV t).1.length + 1 by omega] at h
  rw [show (allV s).1.length + 1 = (allV t).1.length + 1 by omega]
  rcases hV : progF s (allV s).1 ((allV t).1.length + 1) 0 0 ⟨[], []⟩ with ⟨a, e⟩ | ⟨n, q⟩
  · rw [hV] at h
    obtain ⟨a', e'⟩ := h rfl rfl rfl
    rw [e']
    exact ⟨rfl, sameB_er rfl rfl⟩
  · rw [hV] at h
    have hg := prog_grow (Nat.zero_le _) rfl (Nat.zero_le _) (Nat.zero_le _) hV
    unfold SimP at h
    dsimp only at h
    rw [if_pos ⟨by omega, by show 0 + _ ≤ _; omega, by show 0 + _ ≤ _; omega⟩] at h
    obtain ⟨q', e', h1, h2⟩ := h
    rw [e']
    exact ⟨rfl, sameB_er h1.symm h2.symm⟩
end Go.Proofs.YteeofakohenpoaaDoor

/- Tokens of a text that goes on, or that begins further on. -/
namespace Go.Proofs.YteeofakohenpoaaDoor
open Go.Sx
set_option linter.unusedVariables false
set_option linter.unusedSimpArgs false
set_option maxRecDepth 100000

theorem dec_ext {sz sz' p a b c d b' c' d' : Nat} (hp : p < sz) (hz : sz < sz') (hb : p + 1 < sz → b' = b) (hc : p + 2 < sz → c' = c) (hd : p + 3 < sz → d' = d) (hb2 : p + 1 = sz → b' = 10) (hc2 : p + 2 = sz → c' = 10) (hd2 : p + 3 = sz → d' = 10) : dec sz' p a b' c' d' = dec sz p a b c d := by
  by_cases h1 : p + 1 < sz
  · have eb := hb h1
    subst eb
    by_cases h2 : p + 2 < sz
    · have ec := hc h2
      subst ec
      by_cases h3 : p + 3 < sz
      · have ed := hd h3
        subst ed
        unfold dec
        simp only [h1, h2, h3, show p + 1 < sz' by omega, show p + 2 < sz' by omega, show p + 3 < sz' by omega]
      · have ed := hd2 (by omega)
        subst ed
        unfold dec
        simp only [h1, h2, h3, show p + 1 < sz' by omega, show p + 2 < sz' by omega, show ¬ (10 / 64 = 2) by decide, and_false, false_and, if_false]
    · have ec := hc2 (by omega)
      subst ec
      unfold dec
      simp only [h1, h2, show p + 1 < sz' by omega, show ¬ (10 / 64 = 2) by decide, and_false, false_and, if_false]
  · have eb := hb2 (by omega)
    subst eb
    unfold dec
    simp only [h1, show ¬ (10 / 64 = 2) by decide, and_false, false_and, if_false]
theorem bt_end {s x : ByteArray} (h10 : bt x 0 = 10) : bt (s ++ x) s.size = 10 := by have := bt_right s x 0; rw [Nat.add_zero] at this; rw [this, h10]
section
variable {s x : ByteArray} (hx : 0 < x.size) (h10 : bt x 0 = 10)
include hx h10
theorem decode_ext {p : Nat} (hp : p < s.size) : Utf8.decode (s ++ x) p = Utf8.decode s p := by
  have he := bt_end (s := s) h10
  rw [decode_eq, decode_eq, bt_left hp]
  refine dec_ext hp (by rw [app_size]; omega) (fun h => bt_left h) (fun h => bt_left h) (fun h => bt_left h) (fun h => by rw [h]; exact he) (fun h => by rw [h]; exact he) (fun h => by rw [h]; exact he)
theorem skV_ext : ∀ (n : Nat) (rm : Bool) (p : Nat), s.size ≤ p + n → p ≤ s.size → (skV s rm p < s.size → skV (s ++ x) rm p = skV s rm p) ∧ (skV s rm p = s.size → skV (s ++ x) rm p = skV (s ++ x) false (s.size + 1))
  | n, rm, p, h, hp => by
    have hz : s.size < (s ++ x).size := by rw [app_size]; omega
    by_cases hl : p < s.size
    · match n with
      | 0 => omega
      | n + 1 =>
        have eb : bt (s ++ x) p = bt s p := bt_left hl
        rw [skV_step hl, skV_step (by omega : p < (s ++ x).size), eb]
        cases hs : stopB (nextR (bt s p) rm) (bt s p) with
        | true => exact ⟨fun _ => rfl, fun e => by simp at e; omega⟩
        | false =>
          simp only [Bool.false_eq_true, if_false]
          exact skV_ext n _ _ (by omega) (by omega)
    · have e : p = s.size := by omega
      subst e
      rw [skV_end (Nat.le_refl _)]
      refine ⟨fun h => by omega, fun _ => ?_⟩
      have eb := bt_end (s := s) h10
      rw [skV_step hz, eb]
      rfl
omit hx in
theorem plain_end : plainB (s ++ x) s.size = false := by
  have eb := bt_end (s := s) h10
  unfold plainB
  rw [decode_ascii (by omega), eb]
  decide
theorem rowV_ext : ∀ (n p : Nat), s.size ≤ p + n → p ≤ s.size → rowV (s ++ x) p = rowV s p
  | n, p, h, hp => by
    have hz : s.size < (s ++ x).size := by rw [app_size]; omega
    by_cases hl : p < s.size
    · match n with
      | 0 => omega
      | n + 1 =>
        have ed := decode_ext hx h10 hl
        have hr := decode_room hl
        have h1 := (decode_pos s p).1
        rw [rowV_step hl, rowV_step (by omega : p < (s ++ x).size), plainB, plainB, ed]
        split
        · exact rowV_ext n _ (by omega) hr
        · rfl
    · have e : p = s.size := by omega
      subst e
      rw [rowV_end (Nat.le_refl _), rowV_step hz, plain_end h10]
      rfl
theorem digAt_ext {p : Nat} (hp : p ≤ s.size) : digAt (s ++ x) p = digAt s p := by
  have hz : s.size < (s ++ x).size := by rw [app_size]; omega
  unfold digAt
  by_cases hl : p < s.size
  · rw [bt_left hl, decide_eq_true hl, decide_eq_true (by omega : p < (s ++ x).size)]
  · have e : p = s.size := by omega
    subst e
    rw [bt_end h10, decide_eq_false (by omega : ¬ s.size < s.size)]
    simp
theorem pieceEnd_ext {p : Nat} (hp : p < s.size) : pieceEnd (s ++ x) p = pieceEnd s p := by
  unfold pieceEnd
  rw [bt_left hp, digAt_ext hx h10 (by omega), rowV_ext hx h10 s.size (p + 1) (by omega) (by omega), rowV_ext hx h10 s.size p (by omega) (by omega)]
end
theorem ex_data (s : ByteArray) (p q : Nat) : (s.extract p q).data.toList = (s.data.toList.drop p).take (q - p) := by
  rw [ByteArray.data_extract, Array.toList_extract, List.extract_eq_take_drop]
theorem ba_inj {a b : ByteArray} (h : a.data.toList = b.data.toList) : a = b := by rw [ba_eq a, ba_eq b, h]
theorem ex_left (s x : ByteArray) {p q : Nat} (hq : q ≤ s.size) : (s ++ x).extract p q = s.extract p q := by
  refine ba_inj ?_
  rw [size_list] at hq
  rw [ex_data, ex_data, app_data]
  by_cases hp : p ≤ s.data.toList.length
  · rw [List.drop_append_of_le_length hp, List.take_append_of_le_length (by rw [List.length_drop]; omega)]
  · rw [show q - p = 0 by omega]; simp
theorem ex_right (c y : ByteArray) (p q : Nat) : (c ++ y).extract (c.size + p) (c.size + q) = y.extract p q := by
  refine ba_inj ?_
  rw [ex_data, ex_data, app_data, size_list c, show c.data.toList.length + q - (c.data.toList.length + p) = q - p by omega, ← List.drop_drop, List.drop_left]
theorem oneN_ext {s x : ByteArray} (hx : 0 < x.size) (h10 : bt x 0 = 10) {a : Nat} (ha : a ≤ s.size) : (skV s false a < s.size → oneN (s ++ x) a = oneN s a) ∧ (skV s false a = s.size → oneN (s ++ x) a = oneN (s ++ x) (s.size + 1)) := by
  obtain ⟨e1, e2⟩ := skV_ext hx h10 s.size false a (by omega) ha
  have hz : s.size < (s ++ x).size := by rw [app_size]; omega
  refine ⟨fun h => ?_, fun h => ?_⟩
  · have e := e1 h
    obtain ⟨p, hp⟩ : ∃ p, skV s false a = p := ⟨_, rfl⟩
    rw [hp] at h e
    have hpe := pieceEnd_le h
    unfold oneN
    rw [e, hp, if_neg (show ¬ p = (s ++ x).size by omega), if_neg (show ¬ p = s.size by omega), bt_left h, pieceEnd_ext hx h10 h, ex_left s x hpe.2]
  · unfold oneN
    rw [e2 h]
/-! ### further on -/
theorem skV_shift (c y : ByteArray) : ∀ (n : Nat) (rm : Bool) (q : Nat), y.size ≤ q + n → skV (c ++ y) rm (c.size + q) = c.size + skV y rm q
  | n, rm, q, h => by
    by_cases hl : q < y.size
    · match n with
      | 0 => omega
      | n + 1 =>
        rw [skV_step hl, skV_step (by rw [app_size]; omega), bt_right]
        split
        · rfl
        · exact skV_shift c y n _ (q + 1) (by omega)
    · rw [skV_end (by rw [app_size]; omega), skV_end (by omega)]
theorem rowV_shift (c y : ByteArray) : ∀ (n q : Nat), y.size ≤ q + n → rowV (c ++ y) (c.size + q) = c.size + rowV y q
  | n, q, h => by
    by_cases hl : q < y.size
    · match n with
      | 0 => omega
      | n + 1 =>
        have h1 := (decode_pos y q).1
        rw [rowV_step hl, rowV_step (by rw [app_size]; omega), plainB, plainB, decode_right]
        split
        · rw [Nat.add_assoc]; exact rowV_shift c y n _ (by omega)
        · rfl
    · rw [rowV_end (by rw [app_size]; omega), rowV_end (by omega)]
theorem pieceEnd_shift (c y : ByteArray) (q : Nat) : pieceEnd (c ++ y) (c.size + q) = c.size + pieceEnd y q := by
  have ed : digAt (c ++ y) (c.size + q + 1) = digAt y (q + 1) := by
    unfold digAt
    rw [Nat.add_assoc, bt_right, app_size]
    congr 1
    rw [Bool.eq_iff_iff, decide_eq_true_eq, decide_eq_true_eq]; omega
  unfold pieceEnd
  rw [bt_right, ed, Nat.add_assoc, rowV_shift c y y.size (q + 1) (by omega), rowV_shift c y y.size q (by omega)]
  split <;> rfl
def shT (k : Nat) (t : Tok) : Tok := ⟨t.k, t.f + k, t.t + k⟩
def shE (k : Nat) (r : Tok × Int × Int) : Tok × Int × Int := if r.2.2 = 0 then (shT k r.1, r.2) else (r.1, r.2.1 + k, r.2.2)
theorem oneN_shift (c y : ByteArray) (q : Nat) (hq : q ≤ y.size) : oneN (c ++ y) (c.size + q) = shE c.size (oneN y q) := by
  have hs := skV_shift c y y.size false q (by omega)
  have hle := skV_le y y.size false q (by omega) hq
  obtain ⟨p, hp⟩ : ∃ p, skV y false q = p := ⟨_, rfl⟩
  rw [hp] at hs hle
  by_cases e : p = y.size
  · rw [oneN_none hp e, oneN_none hs (by rw [app_size]; omega), app_size]
    unfold shE
    rw [if_neg (show ¬ ((4 : Int) = 0) by decide)]
    refine Prod.ext rfl (Prod.ext ?_ rfl)
    show ((c.size + y.size : Nat) : Int) = (y.size : Int) + c.size; omega
  · have e2 : c.size + p ≠ (c ++ y).size := by rw [app_size]; omega
    cases hb : signB (bt y p) with
    | true =>
      rw [oneN_sign hp e hb, oneN_sign hs e2 (by rw [bt_right]; exact hb)]
      unfold shE shT
      rw [if_pos rfl]
      refine Prod.ext ?_ rfl
      show (⟨4, ((c.size + p : Nat) : Int), ((c.size + p : Nat) : Int) + 1⟩ : Tok) = ⟨4, (p : Int) + c.size, (p : Int) + 1 + c.size⟩
      congr 1 <;> omega
    | false =>
      have hpe := pieceEnd_shift c y p
      have hex := ex_right c y p (pieceEnd y p)
      by_cases hk : kindOf (y.extract p (pieceEnd y p)) = 0
      · rw [oneN_bad hp e hb hk, oneN_bad hs e2 (by rw [bt_right]; exact hb) (by rw [hpe, hex]; exact hk)]
        unfold shE
        rw [if_neg (show ¬ ((6 : Int) = 0) by decide)]
        refine Prod.ext rfl (Prod.ext ?_ rfl)
        show ((c.size + p : Nat) : Int) = (p : Int) + c.size; omega
      · rw [oneN_ok hp e hb hk, oneN_ok hs e2 (by rw [bt_right]; exact hb) (by rw [hpe, hex]; exact hk), hpe, hex]
        unfold shE shT
        rw [if_pos rfl]
        refine Prod.ext ?_ rfl
        show (⟨_, ((c.size + p : Nat) : Int), ((c.size + pieceEnd y p : Nat) : Int)⟩ : Tok) = ⟨_, (p : Int) + c.size, (pieceEnd y p : Int) + c.size⟩
        congr 1 <;> omega
/-! ### where bytes are no text -/
theorem form_go {s : ByteArray} {p : Nat} (h : p < s.size) : (formV s (p : Int)).2 ≠ 0 → (p : Int) + (formV s (p : Int)).2 = ((p + (Utf8.decode s p).2 : Nat) : Int) := fun hne => by
  have := nextV_at h
  unfold nextV at this
  rwa [if_neg hne] at this
theorem form_congr {s y : ByteArray} {p q : Nat} (hp : p < s.size) (hq : q < y.size) (hd : Utf8.decode s p = Utf8.decode y q) : (formV s (p : Int)).2 = 0 ↔ (formV y (q : Int)).2 = 0 := by
  rw [form_zero hp, form_zero hq, hd]
theorem badV_fuel (s : ByteArray) : ∀ (n m p : Nat), s.size ≤ p + n → s.size ≤ p + m → badV s n (p : Int) = badV s m (p : Int)
  | 0, m, p, h, _ => by rw [badV_end (by omega), badV_end (by omega)]
  | n + 1, 0, p, _, h => by rw [badV_end (by omega), badV_end (by omega)]
  | n + 1, m + 1, p, h1, h2 => by
    rw [badV, badV]
    split
    · rename_i hl
      have hl : p < s.size := by omega
      split
      · rfl
      · rename_i h0
        rw [form_go hl h0]
        have := (decode_pos s p).1
        exact badV_fuel s n m _ (by omega) (by omega)
    · rfl
theorem badV_ge (s : ByteArray) : ∀ (n p : Nat), badV s n (p : Int) = -1 ∨ (p : Int) ≤ badV s n (p : Int) ∧ badV s n (p : Int) < s.size
  | 0, p => .inl rfl
  | n + 1, p => by
    rw [badV]
    split
    · rename_i hl
      have hl : p < s.size := by omega
      split
      · exact .inr ⟨Int.le_refl _, by omega⟩
      · rename_i h0
        rw [form_go hl h0]
        rcases badV_ge s n (p + (Utf8.decode s p).2) with h | h
        · exact .inl h
        · exact .inr ⟨by omega, h.2⟩
    · exact .inl rfl
theorem badV_ext {s x : ByteArray} (hx : 0 < x.size) (h10 : bt x 0 = 10) : ∀ (n p : Nat), s.size ≤ p + n → p ≤ s.size →
    badV (s ++ x) (s ++ x).size (p : Int) = if badV s s.size (p : Int) = -1 then badV (s ++ x) (s ++ x).size (s.size : Int) else badV s s.size (p : Int)
  | n, p, h, hp => by
    have hz : s.size < (s ++ x).size := by rw [app_size]; omega
    by_cases hl : p < s.size
    · match n with
      | 0 => omega
      | n + 1 =>
        have ed := decode_ext hx h10 hl
        have hc := form_congr (by omega : p < (s ++ x).size) hl ed
        have hr := decode_room hl
        have h1 := (decode_pos s p).1
        have e1 := badV_fuel s s.size (s.size - 1 + 1) p (by omega) (by omega)
        have e2 := badV_fuel (s ++ x) (s ++ x).size ((s ++ x).size - 1 + 1) p (by omega) (by omega)
        rw [badV, if_pos (by omega)] at e1 e2
        rw [e1, e2]
        by_cases h0 : (formV s (p : Int)).2 = 0
        · rw [if_pos h0, if_pos (hc.2 h0), if_neg (by omega)]
        · have h0' : (formV (s ++ x) (p : Int)).2 ≠ 0 := fun e => h0 (hc.1 e)
          rw [if_neg h0, if_neg h0', form_go hl h0, form_go (by omega) h0', ed]
          rw [badV_fuel s (s.size - 1) s.size _ (by omega) (by omega), badV_fuel (s ++ x) ((s ++ x).size - 1) (s ++ x).size _ (by omega) (by omega)]
          exact badV_ext hx h10 n _ (by omega) hr
    · have e : p = s.size := by omega
      subst e
      rw [badV_end (s := s) (by omega), if_pos rfl]
theorem badV_shift (c y : ByteArray) : ∀ (n q : Nat), y.size ≤ q + n → badV (c ++ y) (c ++ y).size ((c.size + q : Nat) : Int) = if badV y y.size (q : Int) = -1 then -1 else badV y y.size (q : Int) + c.size
  | n, q, h => by
    by_cases hl : q < y.size
    · match n with
      | 0 => omega
      | n + 1 =>
        have hl2 : c.size + q < (c ++ y).size := by rw [app_size]; omega
        have ed := decode_right c y q
        have hc := form_congr hl2 hl ed
        have h1 := (decode_pos y q).1
        have e1 := badV_fuel y y.size (y.size - 1 + 1) q (by omega) (by omega)
        have e2 := badV_fuel (c ++ y) (c ++ y).size ((c ++ y).size - 1 + 1) (c.size + q) (by omega) (by omega)
        rw [badV, if_pos (by omega)] at e1 e2
        rw [e1, e2]
        by_cases h0 : (formV y (q : Int)).2 = 0
        · rw [if_pos h0, if_pos (hc.2 h0), if_neg (by omega)]; omega
        · have h0' : (formV (c ++ y) ((c.size + q : Nat) : Int)).2 ≠ 0 := fun e => h0 (hc.1 e)
          rw [if_neg h0, if_neg h0', form_go hl h0, form_go hl2 h0', ed, Nat.add_assoc]
          rw [badV_fuel y (y.size - 1) y.size _ (by omega) (by omega), badV_fuel (c ++ y) ((c ++ y).size - 1) (c ++ y).size _ (by rw [app_size]; omega) (by rw [app_size]; omega)]
          exact badV_shift c y n _ (by omega)
    · rw [badV_end (by rw [app_size]; omega), badV_end (by omega), if_pos rfl]
end Go.Proofs.YteeofakohenpoaaDoor

/- All tokens, one behind the other; the laws TokenJoins, TokenRemarks. -/
namespace Go.Proofs.YteeofakohenpoaaDoor
open Go.Sx
set_option linter.unusedVariables false
set_option linter.unusedSimpArgs false
set_option maxRecDepth 100000

/-- From a on stand the tokens l, and then there is none, for the reason r. -/
def Run (s : ByteArray) : Nat → List Tok → Int × Int → Prop
  | a, [], r => (oneN s a).2 = r ∧ r.2 ≠ 0
  | a, t :: l, r => oneN s a = (t, 0, 0) ∧ (a : Int) ≤ t.f ∧ t.f < t.t ∧ t.t ≤ s.size ∧ Run s t.t.toNat l r
theorem one_zero {s : ByteArray} {a : Nat} (h : (oneN s a).2.2 = 0) : (oneN s a).2.1 = 0 := by
  unfold oneN at h ⊢
  split
  · rename_i e; rw [if_pos e] at h; exact absurd h (show ¬ ((4 : Int) = 0) by decide)
  · rename_i e
    rw [if_neg e] at h
    split
    · rfl
    · rename_i e2
      rw [if_neg e2] at h
      split
      · rename_i e3; rw [if_pos e3] at h; exact absurd h (show ¬ ((6 : Int) = 0) by decide)
      · rfl
theorem run_ex (s : ByteArray) : ∀ (n a : Nat), s.size ≤ a + n → a ≤ s.size → ∃ l r, Run s a l r
  | n, a, h, ha => by
    rcases one_facts ha with ⟨h0, h1, h2, h3⟩ | h4 | h6
    · match n with
      | 0 => omega
      | n + 1 =>
        obtain ⟨l, r, hr⟩ := run_ex s n (oneN s a).1.t.toNat (by omega) (by omega)
        exact ⟨(oneN s a).1 :: l, r, Prod.ext rfl (Prod.ext (one_zero h0) h0), h1, h2, h3, hr⟩
    · exact ⟨[], _, rfl, by omega⟩
    · exact ⟨[], _, rfl, by omega⟩
theorem run_toks {s : ByteArray} : ∀ {l : List Tok} {a n : Nat} {r : Int × Int} (out : List Tok), Run s a l r → s.size + 1 ≤ a + n → a ≤ s.size → toksF s n a out = if r.2 = 4 then (out ++ l, 0, 0) else ([], r.1, r.2)
  | [], a, n, r, out, h, hn, ha => by
    obtain ⟨n, rfl⟩ : ∃ m, n = m + 1 := ⟨n - 1, by omega⟩
    obtain ⟨h1, h2⟩ := h
    subst h1
    rw [toksF, List.append_nil]
    by_cases e : (oneN s a).2.2 = 4
    · rw [if_pos e, if_pos e]
    · rw [if_neg e, if_neg e, if_neg h2]
  | t :: l, a, n, r, out, h, hn, ha => by
    obtain ⟨n, rfl⟩ : ∃ m, n = m + 1 := ⟨n - 1, by omega⟩
    obtain ⟨h1, h2, h3, h4, h5⟩ := h
    rw [toksF, h1, if_neg (show ¬ ((0 : Int) = 4) by decide), if_pos rfl]
    show toksF s n t.t.toNat (out ++ [t]) = _
    rw [run_toks (out ++ [t]) h5 (by omega) (by omega), List.append_assoc]
    rfl
theorem run_end {s : ByteArray} : ∀ {l : List Tok} {a : Nat} {r : Int × Int}, Run s a l r → a ≤ s.size → r.2 = 4 ∨ r.2 = 6
  | [], a, r, ⟨h1, h2⟩, ha => by
    rcases one_facts ha with ⟨h0, _⟩ | h4 | h6
    · rw [h1] at h0; exact absurd h0 h2
    · rw [h1] at h4; exact .inl h4
    · rw [h1] at h6; exact .inr h6
  | t :: l, a, r, ⟨h1, h2, h3, h4, h5⟩, ha => run_end h5 (by omega)
/-- A text goes on behind a line's end. -/
theorem run_ext {s x : ByteArray} (hx : 0 < x.size) (h10 : bt x 0 = 10) : ∀ {l : List Tok} {a : Nat} {r : Int × Int}, Run s a l r → a ≤ s.size →
    (r.2 = 6 → Run (s ++ x) a l r) ∧ (r.2 = 4 → ∀ m r', Run (s ++ x) (s.size + 1) m r' → (m = [] ∨ ∃ t, m.head? = some t ∧ (s.size : Int) + 1 ≤ t.f) → Run (s ++ x) a (l ++ m) r')
  | [], a, r, ⟨h1, h2⟩, ha => by
    obtain ⟨e1, e2⟩ := oneN_ext hx h10 ha
    have hle := skV_le s s.size false a (by omega) ha
    have h4 : (oneN s a).2.2 = 4 ↔ skV s false a = s.size := by
      constructor
      · intro h
        unfold oneN at h
        by_cases e : skV s false a = s.size
        · exact e
        · rw [if_neg e] at h
          split at h
          · exact absurd h (show ¬ ((0 : Int) = 4) by decide)
          · split at h
            · exact absurd h (show ¬ ((6 : Int) = 4) by decide)
            · exact absurd h (show ¬ ((0 : Int) = 4) by decide)
      · intro h; rw [oneN_none rfl h]
    refine ⟨fun h6 => ⟨?_, h2⟩, fun h => ?_⟩
    · rw [e1 (by
        have : ¬ skV s false a = s.size := fun e => by have := h4.2 e; rw [h1] at this; omega
        omega)]
      exact h1
    · intro m r' hm hhead
      have he := e2 (h4.1 (by rw [h1]; exact h))
      match m, hm with
      | [], hm => exact ⟨by rw [he]; exact hm.1, hm.2⟩
      | t :: m, ⟨g1, g2, g3, g4, g5⟩ => exact ⟨by rw [he]; exact g1, by omega, g3, g4, g5⟩
  | t :: l, a, r, ⟨h1, h2, h3, h4, h5⟩, ha => by
    obtain ⟨i1, i2⟩ := run_ext hx h10 h5 (by omega)
    have hlt : skV s false a < s.size := by
      have hle := skV_le s s.size false a (by omega) ha
      rcases Nat.lt_or_ge (skV s false a) s.size with h | h
      · exact h
      · have := oneN_none (s := s) (a := a) rfl (by omega)
        rw [h1] at this
        have := congrArg (fun r => r.2.2) this
        exact absurd this (show ¬ ((0 : Int) = 4) by decide)
    have e := (oneN_ext hx h10 ha).1 hlt
    have hz : s.size ≤ (s ++ x).size := by rw [app_size]; omega
    exact ⟨fun h => ⟨by rw [e]; exact h1, h2, h3, by omega, i1 h⟩, fun h m r' hm hh => ⟨by rw [e]; exact h1, h2, h3, by omega, i2 h m r' hm hh⟩⟩
/-- A text begins further on. -/
theorem run_shift (c y : ByteArray) : ∀ {l : List Tok} {q : Nat} {r : Int × Int}, Run y q l r → q ≤ y.size → Run (c ++ y) (c.size + q) (l.map (shT c.size)) (r.1 + c.size, r.2)
  | [], q, r, ⟨h1, h2⟩, hq => by
    refine ⟨?_, h2⟩
    rw [oneN_shift c y q hq]
    unfold shE
    rw [if_neg (by rw [h1]; exact h2), h1]
  | t :: l, q, r, ⟨h1, h2, h3, h4, h5⟩, hq => by
    refine ⟨?_, ?_, ?_, ?_, ?_⟩
    · rw [oneN_shift c y q hq, h1]
      unfold shE
      rw [if_pos rfl]
    · show ((c.size + q : Nat) : Int) ≤ t.f + c.size; omega
    · show t.f + c.size < t.t + c.size; omega
    · show t.t + (c.size : Int) ≤ (c ++ y).size; rw [app_size]; omega
    · have := run_shift c y h5 (by omega)
      rwa [show c.size + t.t.toNat = (shT c.size t).t.toNat by show _ = (t.t + (c.size : Int)).toNat; omega] at this
theorem run_first {s : ByteArray} {l : List Tok} {a : Nat} {r : Int × Int} (h : Run s a l r) : l = [] ∨ ∃ t, l.head? = some t ∧ (a : Int) ≤ t.f := by
  match l, h with
  | [], _ => exact .inl rfl
  | t :: l, h => exact .inr ⟨t, rfl, h.2.1⟩
/-- What All says, of a text that isn't too long. -/
theorem allV_bad {s : ByteArray} (h : s.size ≤ 65536) (hb : 0 ≤ badV s s.size 0) : allV s = ([], badV s s.size 0, 5) := by
  rw [allV, if_neg (by omega), if_pos hb]
theorem allV_run {s : ByteArray} (h : s.size ≤ 65536) (hb : badV s s.size 0 = -1) {l : List Tok} {r : Int × Int} (hr : Run s 0 l r) : allV s = if r.2 = 4 then (l, 0, 0) else ([], r.1, r.2) := by
  rw [allV, if_neg (by omega), if_neg (by omega), run_toks [] hr (by omega) (by omega), List.nil_append]
theorem bad_cases (s : ByteArray) : badV s s.size 0 = -1 ∨ 0 ≤ badV s s.size 0 ∧ badV s s.size 0 < s.size := badV_ge s s.size 0
def nl : ByteArray := ⟨#[10]⟩
theorem app_assoc (a b c : ByteArray) : a ++ b ++ c = a ++ (b ++ c) := ba_inj (by rw [app_data, app_data, app_data, app_data, List.append_assoc])
theorem nl_size (b : ByteArray) : (nl ++ b).size = b.size + 1 := by rw [app_size]; show 1 + b.size = _; omega
theorem nl_ten (b : ByteArray) : bt (nl ++ b) 0 = 10 := by
  rw [bt_left (by decide)]; decide +kernel
theorem bad_nl (a b : ByteArray) : badV (a ++ (nl ++ b)) (a ++ (nl ++ b)).size 0 = if badV a a.size 0 = -1 then (if badV b b.size 0 = -1 then -1 else badV b b.size 0 + (a.size + 1 : Nat)) else badV a a.size 0 := by
  have h1 := badV_ext (s := a) (x := nl ++ b) (by rw [nl_size]; omega) (nl_ten b) a.size 0 (by omega) (by omega)
  have h1 : badV (a ++ (nl ++ b)) (a ++ (nl ++ b)).size 0 = if badV a a.size 0 = -1 then badV (a ++ (nl ++ b)) (a ++ (nl ++ b)).size (a.size : Int) else badV a a.size 0 := h1
  have h2 := badV_shift (a ++ nl) b b.size 0 (by omega)
  have hk : (a ++ nl).size = a.size + 1 := app_size a nl
  rw [app_assoc, hk] at h2
  have h2 : badV (a ++ (nl ++ b)) (a ++ (nl ++ b)).size ((a.size + 1 : Nat) : Int) = if badV b b.size 0 = -1 then -1 else badV b b.size 0 + (a.size + 1 : Nat) := h2
  have hs : a.size < (a ++ (nl ++ b)).size := by rw [app_size, nl_size]; omega
  have hd : Utf8.decode (a ++ (nl ++ b)) a.size = (10, 1) := by
    have e := bt_end (s := a) (x := nl ++ b) (nl_ten b)
    rw [decode_ascii (by omega), e]
  have h3 : badV (a ++ (nl ++ b)) (a ++ (nl ++ b)).size (a.size : Int) = badV (a ++ (nl ++ b)) (a ++ (nl ++ b)).size ((a.size + 1 : Nat) : Int) := by
    rw [badV_fuel _ (a ++ (nl ++ b)).size ((a ++ (nl ++ b)).size - 1 + 1) a.size (by omega) (by omega), badV, if_pos (by omega)]
    have hf : (formV (a ++ (nl ++ b)) (a.size : Int)).2 ≠ 0 := fun e => by
      have := (form_zero hs).1 e
      rw [hd] at this
      exact absurd this.1 (by decide)
    rw [if_neg hf, form_go hs hf, hd]
    exact badV_fuel _ _ _ _ (by omega) (by omega)
  rw [h1, h3, h2]
theorem joins_plain {a b : ByteArray} (ha : a.size ≤ 10000) (hb : b.size ≤ 10000) (he : (allV a).2.2 = 0) :
    allV (a ++ (nl ++ b)) = if (allV b).2.2 = 0 then ((allV a).1 ++ (allV b).1.map (shT (a.size + 1)), 0, 0) else ([], (allV b).2.1 + (a.size + 1 : Nat), (allV b).2.2) := by
  have hsz : (a ++ (nl ++ b)).size = a.size + b.size + 1 := by rw [app_size, nl_size]; omega
  obtain ⟨l, r, hl⟩ := run_ex a a.size 0 (by omega) (by omega)
  obtain ⟨m, r2, hm⟩ := run_ex b b.size 0 (by omega) (by omega)
  rcases bad_cases a with hba | ⟨hba, _⟩
  · have ea := allV_run (by omega) hba hl
    have hr4 : r.2 = 4 := by
      rcases run_end hl (by omega) with h | h
      · exact h
      · rw [ea, if_neg (by omega)] at he; exact absurd he (by show ¬ r.2 = 0; omega)
    rw [if_pos hr4] at ea
    have hbn := bad_nl a b
    rw [if_pos hba] at hbn
    rcases bad_cases b with hbb | ⟨hbb, _⟩
    · rw [if_pos hbb] at hbn
      have eb := allV_run (by omega) hbb hm
      have hsh := run_shift (a ++ nl) b hm (by omega)
      have hk : (a ++ nl).size = a.size + 1 := app_size a nl
      rw [app_assoc, hk] at hsh
      have hsh : Run (a ++ (nl ++ b)) (a.size + 1) (m.map (shT (a.size + 1))) (r2.1 + (a.size + 1 : Nat), r2.2) := hsh
      have hfirst : m.map (shT (a.size + 1)) = [] ∨ ∃ t, (m.map (shT (a.size + 1))).head? = some t ∧ (a.size : Int) + 1 ≤ t.f := by
        rcases run_first hsh with h | ⟨t, h1, h2⟩
        · exact .inl h
        · exact .inr ⟨t, h1, by omega⟩
      have hall := (run_ext (s := a) (x := nl ++ b) (by rw [nl_size]; omega) (nl_ten b) hl (by omega)).2 hr4 _ _ hsh hfirst
      rw [allV_run (by omega) hbn hall, ea, eb]
      rcases run_end hm (by omega) with h | h
      · rw [if_pos h, if_pos h]; rfl
      · have n4 : ¬ r2.2 = 4 := by omega
        rw [if_neg n4, if_neg (show ¬ ((r2.1 + ((a.size + 1 : Nat) : Int), r2.2).2 = 4) from n4), if_neg (show ¬ r2.2 = 0 by omega)]
    · rw [if_neg (by omega)] at hbn
      rw [allV_bad (by omega) (by rw [hbn]; omega), hbn, allV_bad (by omega) hbb, if_neg (show ¬ ((5 : Int) = 0) by decide)]
  · rw [allV_bad (by omega) hba] at he
    exact absurd he (show ¬ ((5 : Int) = 0) by decide)
end Go.Proofs.YteeofakohenpoaaDoor

/- A token's bytes by themselves, with a remark behind: the same token; all of them so: the same tokens. -/
namespace Go.Proofs.YteeofakohenpoaaDoor
open Go.Sx
set_option linter.unusedVariables false
set_option linter.unusedSimpArgs false
set_option maxRecDepth 100000

/-- Of a rune that is none that can't be read, the bytes behind it are not looked at. -/
theorem dec_up {sz sz' p a b c d b' c' d' : Nat} (hz : sz ≤ sz') (hb : p + 1 < sz → b' = b) (hc : p + 2 < sz → c' = c) (hd : p + 3 < sz → d' = d) (h : (dec sz p a b c d).1 ≠ 65533) : dec sz' p a b' c' d' = dec sz p a b c d := by
  unfold dec at h ⊢
  by_cases h1 : a < 128
  · rw [if_pos h1, if_pos h1]
  rw [if_neg h1] at h ⊢
  rw [if_neg h1]
  by_cases c2 : a / 32 = 6 ∧ p + 1 < sz ∧ b / 64 = 2
  · have eb := hb c2.2.1
    subst eb
    rw [if_pos c2, if_pos ⟨c2.1, by omega, c2.2.2⟩]
  rw [if_neg c2] at h ⊢
  by_cases c3 : a / 16 = 14 ∧ p + 1 < sz ∧ b / 64 = 2 ∧ p + 2 < sz ∧ c / 64 = 2
  · have eb := hb c3.2.1
    have ec := hc c3.2.2.2.1
    subst eb ec
    rw [if_pos c3, if_neg (show ¬ (a / 32 = 6 ∧ _) by omega), if_pos ⟨c3.1, by omega, c3.2.2.1, by omega, c3.2.2.2.2⟩]
  rw [if_neg c3] at h ⊢
  by_cases c4 : a / 8 = 30 ∧ p + 1 < sz ∧ b / 64 = 2 ∧ p + 2 < sz ∧ c / 64 = 2 ∧ p + 3 < sz ∧ d / 64 = 2
  · have eb := hb c4.2.1
    have ec := hc c4.2.2.2.1
    have ed := hd c4.2.2.2.2.2.1
    subst eb ec ed
    rw [if_pos c4, if_neg (show ¬ (a / 32 = 6 ∧ _) by omega), if_neg (show ¬ (a / 16 = 14 ∧ _) by omega), if_pos ⟨c4.1, by omega, c4.2.2.1, by omega, c4.2.2.2.2.1, by omega, c4.2.2.2.2.2.2⟩]
  rw [if_neg c4] at h
  exact absurd rfl h
theorem dec_cut {sz sz' p a b c d b' c' d' : Nat} (hz : sz ≤ sz') (hb : p + 1 < sz → b' = b) (hc : p + 2 < sz → c' = c) (hd : p + 3 < sz → d' = d) (h : (dec sz' p a b' c' d').1 ≠ 65533) (hr : p + (dec sz' p a b' c' d').2 ≤ sz) : dec sz p a b c d = dec sz' p a b' c' d' := by
  unfold dec at h hr ⊢
  by_cases h1 : a < 128
  · rw [if_pos h1, if_pos h1]
  rw [if_neg h1] at h hr ⊢
  rw [if_neg h1]
  by_cases c2 : a / 32 = 6 ∧ p + 1 < sz' ∧ b' / 64 = 2
  · rw [if_pos c2] at h hr ⊢
    by_cases v : 128 ≤ a % 32 * 64 + b' % 64
    · rw [if_pos v] at hr
      dsimp only at hr
      have eb := hb (by omega)
      subst eb
      rw [if_pos ⟨c2.1, by omega, c2.2.2⟩]
    · rw [if_neg v] at h; exact absurd rfl h
  rw [if_neg c2] at h hr ⊢
  rw [if_neg (show ¬ (a / 32 = 6 ∧ p + 1 < sz ∧ b / 64 = 2) from fun ⟨x, y, z⟩ => c2 ⟨x, by omega, by rw [hb y]; exact z⟩)]
  by_cases c3 : a / 16 = 14 ∧ p + 1 < sz' ∧ b' / 64 = 2 ∧ p + 2 < sz' ∧ c' / 64 = 2
  · rw [if_pos c3] at h hr ⊢
    split at hr
    · rename_i v
      dsimp only at hr
      have eb := hb (by omega)
      have ec := hc (by omega)
      subst eb ec
      rw [if_pos ⟨c3.1, by omega, c3.2.2.1, by omega, c3.2.2.2.2⟩]
    · rename_i v
      rw [if_neg v] at h; exact absurd rfl h
  rw [if_neg c3] at h hr ⊢
  rw [if_neg (show ¬ (a / 16 = 14 ∧ p + 1 < sz ∧ b / 64 = 2 ∧ p + 2 < sz ∧ c / 64 = 2) from fun ⟨x, y, z, u, v⟩ => c3 ⟨x, by omega, by rw [hb y]; exact z, by omega, by rw [hc u]; exact v⟩)]
  by_cases c4 : a / 8 = 30 ∧ p + 1 < sz' ∧ b' / 64 = 2 ∧ p + 2 < sz' ∧ c' / 64 = 2 ∧ p + 3 < sz' ∧ d' / 64 = 2
  · rw [if_pos c4] at h hr ⊢
    split at hr
    · rename_i v
      dsimp only at hr
      have eb := hb (by omega)
      have ec := hc (by omega)
      have ed := hd (by omega)
      subst eb ec ed
      rw [if_pos ⟨c4.1, by omega, c4.2.2.1, by omega, c4.2.2.2.2.1, by omega, c4.2.2.2.2.2.2⟩]
    · rename_i v
      rw [if_neg v] at h; exact absurd rfl h
  rw [if_neg c4] at h
  exact absurd rfl h
theorem decode_more {w x : ByteArray} {p : Nat} (hp : p < w.size) (h : (Utf8.decode w p).1 ≠ 65533) : Utf8.decode (w ++ x) p = Utf8.decode w p := by
  rw [decode_eq] at h ⊢
  rw [decode_eq, bt_left hp]
  exact dec_up (by rw [app_size]; omega) (fun h => bt_left h) (fun h => bt_left h) (fun h => bt_left h) h
theorem decode_cut {w x : ByteArray} {p : Nat} (hp : p < w.size) (h : (Utf8.decode (w ++ x) p).1 ≠ 65533) (hr : p + (Utf8.decode (w ++ x) p).2 ≤ w.size) : Utf8.decode w p = Utf8.decode (w ++ x) p := by
  rw [decode_eq, bt_left hp] at h hr
  rw [decode_eq, decode_eq (w ++ x), bt_left hp]
  exact dec_cut (by rw [app_size]; omega) (fun h => bt_left h) (fun h => bt_left h) (fun h => bt_left h) h hr
theorem plain_ne {s : ByteArray} {p : Nat} (h : plainB s p = true) : (Utf8.decode s p).1 ≠ 65533 := fun e => by
  unfold plainB at h
  rw [e] at h
  exact absurd h (by decide)
theorem rowV_cut {w x : ByteArray} : ∀ (n p : Nat), w.size ≤ p + n → p ≤ w.size → rowV (w ++ x) p = w.size → rowV w p = w.size
  | n, p, h, hp, e => by
    by_cases hl : p < w.size
    · match n with
      | 0 => omega
      | n + 1 =>
        have hl2 : p < (w ++ x).size := by rw [app_size]; omega
        have h1 := (decode_pos (w ++ x) p).1
        rw [rowV_step hl2] at e
        split at e
        · rename_i hb
          have hle := decode_room hl2
          have hr := (rowV_le (w ++ x) (w ++ x).size (p + (Utf8.decode (w ++ x) p).2) (by omega) hle).1
          have ed := decode_cut hl (plain_ne hb) (by omega)
          have hb' : plainB w p = true := by
            unfold plainB at hb ⊢
            rw [ed]; exact hb
          rw [rowV_step hl, if_pos hb', ed]
          exact rowV_cut n _ (by omega) (by omega) e
        · omega
    · rw [rowV_end (by omega)]; omega
theorem plain_blank {w x : ByteArray} (h : bt x 0 = 32) : plainB (w ++ x) w.size = false := by
  have eb : bt (w ++ x) w.size = 32 := by have := bt_right w x 0; rw [Nat.add_zero] at this; rw [this, h]
  unfold plainB
  rw [decode_ascii (by omega), eb]
  decide
theorem rowV_more {w x : ByteArray} (h32 : bt x 0 = 32) (hx : 0 < x.size) : ∀ (n p : Nat), w.size ≤ p + n → p ≤ w.size → rowV w p = w.size → rowV (w ++ x) p = w.size
  | n, p, h, hp, e => by
    have hz : w.size < (w ++ x).size := by rw [app_size]; omega
    by_cases hl : p < w.size
    · match n with
      | 0 => omega
      | n + 1 =>
        have h1 := (decode_pos w p).1
        have hle := decode_room hl
        rw [rowV_step hl] at e
        split at e
        · rename_i hb
          have ed := decode_more (x := x) hl (plain_ne hb)
          have hb' : plainB (w ++ x) p = true := by
            unfold plainB at hb ⊢
            rw [ed]; exact hb
          rw [rowV_step (by omega), if_pos hb', ed]
          exact rowV_more h32 hx n _ (by omega) hle e
        · omega
    · obtain rfl : p = w.size := by omega
      rw [rowV_step hz, plain_blank h32]
      rfl
/-- Bytes that are one token by themselves. -/
def Pc (k : Int) (w : ByteArray) : Prop := 0 < w.size ∧ stopB false (bt w 0) = true ∧ bt w 0 ≠ 35 ∧ (signB (bt w 0) = true ∧ w.size = 1 ∧ k = 4 ∨ signB (bt w 0) = false ∧ pieceEnd w 0 = w.size ∧ kindOf w = k ∧ k ≠ 0)
theorem split3 (s : ByteArray) {p q : Nat} (h1 : p ≤ q) (h2 : q ≤ s.size) : s = s.extract 0 p ++ (s.extract p q ++ s.extract q s.size) := by
  refine ba_inj ?_
  rw [size_list] at h2
  rw [app_data, app_data, ex_data, ex_data, ex_data, size_list, List.drop_zero, Nat.sub_zero, List.take_of_length_le (l := s.data.toList.drop q) (by rw [List.length_drop]; omega)]
  have e1 : s.data.toList.drop q = (s.data.toList.drop p).drop (q - p) := by rw [List.drop_drop, Nat.add_sub_cancel' h1]
  rw [e1, List.take_append_drop, List.take_append_drop]
theorem ex_size2 (s : ByteArray) {p q : Nat} (h2 : q ≤ s.size) : (s.extract p q).size = q - p := by
  rw [ByteArray.size_extract, Nat.min_eq_left h2]
theorem bt_ex (s : ByteArray) {p q : Nat} (h : p < q) : bt (s.extract p q) 0 = bt s p := by
  have e1 := sb_bt (s.extract p q) 0
  have e2 := sb_bt s p
  unfold sb at e1 e2
  rw [ex_data, List.getD_eq_getElem?_getD, List.getElem?_take, if_pos (by omega), List.getElem?_drop, Nat.add_zero, ← List.getD_eq_getElem?_getD, e2] at e1
  omega
theorem digAt_lt {s : ByteArray} {p : Nat} (h : digAt s p = true) : p < s.size ∧ 48 ≤ bt s p ∧ bt s p ≤ 57 := by
  unfold digAt at h
  simpa using h
theorem dig_plain {s : ByteArray} {p : Nat} (h : digAt s p = true) : plainB s p = true ∧ (Utf8.decode s p).2 = 1 := by
  obtain ⟨h1, h2, h3⟩ := digAt_lt h
  unfold plainB
  rw [decode_ascii (by omega)]
  refine ⟨?_, rfl⟩
  unfold letB digB
  rw [decide_eq_true (show (48 : Int) ≤ (bt s p : Int) by omega), decide_eq_true (show (bt s p : Int) ≤ 57 by omega)]
  simp
theorem pieceEnd_cut {w x : ByteArray} (hw : 0 < w.size) (h : pieceEnd (w ++ x) 0 = w.size) : pieceEnd w 0 = w.size := by
  unfold pieceEnd at h ⊢
  rw [bt_left hw] at h
  by_cases c : bt w 0 = 45 ∧ digAt (w ++ x) (0 + 1) = true
  · rw [if_pos c] at h
    obtain ⟨d1, d2, d3⟩ := digAt_lt c.2
    have h1 : 1 < w.size := by
      rcases Nat.lt_or_ge 1 w.size with h1 | h1
      · exact h1
      · obtain ⟨p1, p2⟩ := dig_plain c.2
        rw [rowV_step d1, if_pos p1, p2] at h
        have := (rowV_le (w ++ x) (w ++ x).size (0 + 1 + 1) (by omega) (by omega)).1
        omega
    have hd : digAt w (0 + 1) = true := by
      have := c.2
      unfold digAt at this ⊢
      rw [bt_left h1] at this
      rw [decide_eq_true (show 0 + 1 < w.size from h1)]
      simpa using (by simpa using this : _ ∧ _ ∧ _).2
    rw [if_pos ⟨c.1, hd⟩]
    exact rowV_cut w.size _ (by omega) (by omega) h
  · rw [if_neg c] at h
    rw [if_neg (fun hc => c ⟨hc.1, ?_⟩)]
    · exact rowV_cut w.size _ (by omega) (by omega) h
    · obtain ⟨d1, d2, d3⟩ := digAt_lt hc.2
      unfold digAt
      rw [bt_left d1, decide_eq_true (show 0 + 1 < (w ++ x).size by rw [app_size]; omega), decide_eq_true d2, decide_eq_true d3]
      rfl
theorem pieceEnd_more {w x : ByteArray} (hw : 0 < w.size) (h32 : bt x 0 = 32) (hx : 0 < x.size) (h : pieceEnd w 0 = w.size) : pieceEnd (w ++ x) 0 = w.size := by
  unfold pieceEnd at h ⊢
  rw [bt_left hw]
  by_cases c : bt w 0 = 45 ∧ digAt w (0 + 1) = true
  · rw [if_pos c] at h
    obtain ⟨d1, d2, d3⟩ := digAt_lt c.2
    rw [if_pos ⟨c.1, by
      unfold digAt
      rw [bt_left d1, decide_eq_true (show 0 + 1 < (w ++ x).size by rw [app_size]; omega), decide_eq_true d2, decide_eq_true d3]
      rfl⟩]
    exact rowV_more h32 hx w.size _ (by omega) (by omega) h
  · rw [if_neg c] at h
    rw [if_neg (fun hc => c ⟨hc.1, ?_⟩)]
    · exact rowV_more h32 hx w.size _ (by omega) (by omega) h
    · obtain ⟨d1, d2, d3⟩ := digAt_lt hc.2
      have h1 : 1 < w.size := by
        rcases Nat.lt_or_ge 1 w.size with h1 | h1
        · exact h1
        · have e : w.size = 0 + 1 := by omega
          have := bt_right w x 0
          rw [Nat.add_zero, e, h32] at this
          omega
      rw [bt_left h1] at d2 d3
      unfold digAt
      rw [decide_eq_true (show 0 + 1 < w.size from h1), decide_eq_true d2, decide_eq_true d3]
      rfl
theorem pc_of {s : ByteArray} {a : Nat} {t : Tok} (ha : a ≤ s.size) (h : oneN s a = (t, 0, 0)) : Pc t.k (s.extract t.f.toNat t.t.toNat) := by
  obtain ⟨h1, h2, h3⟩ := skV_le s s.size false a (by omega) ha
  obtain ⟨p, hp⟩ : ∃ p, skV s false a = p := ⟨_, rfl⟩
  rw [hp] at h1 h2 h3
  by_cases e : p = s.size
  · rw [oneN_none hp e] at h
    exact absurd (congrArg (fun r => r.2.2) h) (show ¬ ((4 : Int) = 0) by decide)
  obtain ⟨g1, g2⟩ := h3 (by omega)
  cases hs : signB (bt s p) with
  | true =>
    rw [oneN_sign hp e hs] at h
    obtain rfl := (Prod.mk.inj h).1
    show Pc 4 (s.extract ((p : Int)).toNat ((p : Int) + 1).toNat)
    rw [show ((p : Int)).toNat = p by omega, show ((p : Int) + 1).toNat = p + 1 by omega]
    have z2 := ex_size2 s (p := p) (q := p + 1) (by omega)
    rw [← bt_ex s (show p < p + 1 by omega)] at g1 g2 hs
    exact ⟨by omega, g1, g2, .inl ⟨hs, by omega, rfl⟩⟩
  | false =>
    by_cases hk : kindOf (s.extract p (pieceEnd s p)) = 0
    · rw [oneN_bad hp e hs hk] at h
      exact absurd (congrArg (fun r => r.2.2) h) (show ¬ ((6 : Int) = 0) by decide)
    rw [oneN_ok hp e hs hk] at h
    obtain rfl := (Prod.mk.inj h).1
    obtain ⟨q, hq⟩ : ∃ q, pieceEnd s p = q := ⟨_, rfl⟩
    have h4 := kind_piece hk
    have h5 := pieceEnd_le (s := s) (p := p) (by omega)
    rw [hq] at h4 h5 hk ⊢
    show Pc (kindOf (s.extract p q)) (s.extract ((p : Int)).toNat ((q : Int)).toNat)
    rw [show ((p : Int)).toNat = p by omega, show ((q : Int)).toNat = q by omega]
    have sp := split3 s (show p ≤ q by omega) h5.2
    have z1 := ex_size2 s (p := 0) (q := p) (by omega)
    have z2 := ex_size2 s (p := p) (q := q) h5.2
    have ep : pieceEnd (s.extract p q ++ s.extract q s.size) 0 = (s.extract p q).size := by
      have := pieceEnd_shift (s.extract 0 p) (s.extract p q ++ s.extract q s.size) 0
      rw [← sp, z1, show p - 0 + 0 = p by omega, hq] at this
      omega
    rw [← bt_ex s h4] at g1 g2 hs
    exact ⟨by omega, g1, g2, .inr ⟨hs, pieceEnd_cut (by omega) ep, rfl, hk⟩⟩
theorem one_pc {k : Int} {w x : ByteArray} (h : Pc k w) (h32 : bt x 0 = 32) (hx : 0 < x.size) : oneN (w ++ x) 0 = (⟨k, 0, (w.size : Int)⟩, 0, 0) := by
  obtain ⟨h1, h2, h3, h4⟩ := h
  have hz : 0 < (w ++ x).size := by rw [app_size]; omega
  have hsz : (w ++ x).size ≠ 0 := by omega
  have eb : bt (w ++ x) 0 = bt w 0 := bt_left h1
  have hsk : skV (w ++ x) false 0 = 0 := skV_stop hz (by
    rw [eb]
    unfold nextR
    rw [if_neg h3]
    split <;> exact h2)
  rcases h4 with ⟨a1, a2, rfl⟩ | ⟨a1, a2, a3, a4⟩
  · rw [oneN_sign hsk (by omega) (by rw [eb]; exact a1), a2]
    rfl
  · have ep := pieceEnd_more h1 h32 hx a2
    have ee : (w ++ x).extract 0 w.size = w := by
      refine ba_inj ?_
      rw [ex_data, app_data, size_list]
      simp
    rw [oneN_ok hsk (by omega) (by rw [eb]; exact a1) (by rw [ep, ee, a3]; exact a4), ep, ee, a3]
    rfl
/-- What stands behind each token: a blank, a remark and a line's end. -/
def rem : ByteArray := ⟨#[32, 35, 32, 114, 101, 109, 97, 114, 107, 10]⟩
theorem rem_bt (y : ByteArray) {i : Nat} (hi : i < 10) : bt (rem ++ y) i = bt rem i := bt_left hi
theorem rem_size (y : ByteArray) : (rem ++ y).size = y.size + 10 := by rw [app_size]; show 10 + y.size = _; omega
theorem rem_skip (y : ByteArray) : skV (rem ++ y) false 0 = skV (rem ++ y) false 10 := by
  have hz := rem_size y
  rw [skV_go (by omega) (by rw [rem_bt y (by decide)]; decide +kernel), show nextR (bt (rem ++ y) 0) false = false by rw [rem_bt y (by decide)]; decide +kernel]
  rw [skV_go (by omega) (by rw [rem_bt y (by decide)]; decide +kernel), show nextR (bt (rem ++ y) (0 + 1)) false = true by rw [rem_bt y (by decide)]; decide +kernel]
  refine skV_remark (rem ++ y) 7 2 (by omega) (by rw [rem_bt y (by decide)]; decide +kernel) fun j hj => ?_
  rw [rem_bt y (by omega)]
  have : ∀ j, j < 7 → bt rem (2 + j) ≠ 10 := by decide +kernel
  exact this j hj
theorem run_skip {s : ByteArray} {a b : Nat} (h : skV s false a = skV s false b) (hab : a ≤ b) : ∀ {l : List Tok} {r : Int × Int}, Run s b l r → Run s a l r
  | [], r, ⟨h1, h2⟩ => ⟨by unfold oneN at h1 ⊢; rw [h]; exact h1, h2⟩
  | t :: l, r, ⟨h1, h2, h3⟩ => ⟨by unfold oneN at h1 ⊢; rw [h]; exact h1, by omega, h3⟩
/-- The tokens l of s, each with a remark behind. -/
def spc (s : ByteArray) : List Tok → ByteArray
  | [] => .empty
  | t :: l => s.extract t.f.toNat t.t.toNat ++ (rem ++ spc s l)
theorem spc_app (s : ByteArray) : ∀ (l m : List Tok), spc s (l ++ m) = spc s l ++ spc s m
  | [], m => ba_inj (by rw [app_data]; rfl)
  | t :: l, m => by
    show _ ++ (rem ++ spc s (l ++ m)) = _ ++ (rem ++ spc s l) ++ spc s m
    rw [spc_app s l m, app_assoc, app_assoc]
def tx (s : ByteArray) (t : Tok) : Int × ByteArray := (t.k, s.extract t.f.toNat t.t.toNat)
theorem run_tx (c y : ByteArray) : ∀ {m : List Tok} {q : Nat} {r : Int × Int}, Run y q m r → (m.map (shT c.size)).map (tx (c ++ y)) = m.map (tx y)
  | [], _, _, _ => rfl
  | t :: m, q, r, ⟨h1, h2, h3, h4, h5⟩ => by
    rw [List.map_cons, List.map_cons, List.map_cons, run_tx c y h5]
    congr 1
    show (t.k, (c ++ y).extract (t.f + (c.size : Int)).toNat (t.t + (c.size : Int)).toNat) = (t.k, y.extract t.f.toNat t.t.toNat)
    rw [show (t.f + (c.size : Int)).toNat = c.size + t.f.toNat by omega, show (t.t + (c.size : Int)).toNat = c.size + t.t.toNat by omega, ex_right]
theorem spc_run {s : ByteArray} : ∀ {l : List Tok} {a : Nat} {r : Int × Int}, Run s a l r → a ≤ s.size → ∃ l', Run (spc s l) 0 l' ((spc s l).size, 4) ∧ l'.map (tx (spc s l)) = l.map (tx s)
  | [], a, r, h, ha => ⟨[], ⟨by rw [show spc s [] = ByteArray.empty from rfl]; decide +kernel, show ¬ ((4 : Int) = 0) by decide⟩, rfl⟩
  | t :: l, a, r, ⟨h1, h2, h3, h4, h5⟩, ha => by
    obtain ⟨l', g1, g2⟩ := spc_run h5 (by omega)
    obtain ⟨w, hw⟩ : ∃ w, s.extract t.f.toNat t.t.toNat = w := ⟨_, rfl⟩
    obtain ⟨y, hy⟩ : ∃ y, spc s l = y := ⟨_, rfl⟩
    have hp := pc_of ha h1
    rw [hw] at hp
    have hz := rem_size y
    have o := one_pc (x := rem ++ y) hp (by rw [rem_bt y (by decide)]; decide +kernel) (by omega)
    have hsp : spc s (t :: l) = w ++ (rem ++ y) := by show _ ++ (rem ++ spc s l) = _; rw [hw, hy]
    rw [hy] at g1 g2
    have hws : (w ++ rem).size = w.size + 10 := app_size w rem
    have r1 := run_shift (w ++ rem) y g1 (Nat.zero_le _)
    rw [app_assoc, hws] at r1
    have r1 : Run (w ++ (rem ++ y)) (w.size + 10) (l'.map (shT (w.size + 10))) (((w ++ (rem ++ y)).size : Nat), 4) := by
      have e : ((y.size : Int) + ((w.size + 10 : Nat) : Int)) = ((w ++ (rem ++ y)).size : Nat) := by rw [app_size, hz]; omega
      rw [← e]; exact r1
    have r2 := run_skip (a := w.size) (by
      have e1 := skV_shift w (rem ++ y) (rem ++ y).size false 0 (by omega)
      have e2 := skV_shift w (rem ++ y) (rem ++ y).size false 10 (by omega)
      rw [Nat.add_zero] at e1
      rw [e1, e2, rem_skip]) (by omega) r1
    have t1 := run_tx (w ++ rem) y g1
    rw [app_assoc, hws] at t1
    refine ⟨⟨t.k, 0, (w.size : Int)⟩ :: l'.map (shT (w.size + 10)), ?_, ?_⟩
    · rw [hsp]
      refine ⟨o, Int.le_refl _, by have := hp.1; show (0 : Int) < w.size; omega, by show (w.size : Int) ≤ _; rw [app_size]; omega, r2⟩
    · rw [hsp, List.map_cons, List.map_cons, t1, g2]
      congr 1
      show (t.k, (w ++ (rem ++ y)).extract (0 : Int).toNat (w.size : Int).toNat) = (t.k, s.extract t.f.toNat t.t.toNat)
      rw [hw, show (0 : Int).toNat = 0 from rfl, show (w.size : Int).toNat = w.size by omega]
      congr 1
      refine ba_inj ?_
      rw [ex_data, app_data, size_list]
      simp
theorem spc_size {s : ByteArray} : ∀ {l : List Tok} {a : Nat} {r : Int × Int}, Run s a l r → a ≤ s.size → a + (spc s l).size ≤ s.size + 10 * l.length
  | [], a, r, h, ha => by show a + 0 ≤ _; omega
  | t :: l, a, r, ⟨h1, h2, h3, h4, h5⟩, ha => by
    have := spc_size h5 (by omega)
    show a + (s.extract t.f.toNat t.t.toNat ++ (rem ++ spc s l)).size ≤ _
    rw [app_size, rem_size, ex_size2 s (by omega), List.length_cons]
    omega
/-! ### they are a text -/
theorem bad_go {s : ByteArray} {p : Nat} (hp : p < s.size) (hd : (Utf8.decode s p).1 ≠ 65533) (h : badV s s.size ((p + (Utf8.decode s p).2 : Nat) : Int) = -1) : badV s s.size (p : Int) = -1 := by
  have h1 := (decode_pos s p).1
  have hne : ¬ (formV s (p : Int)).2 = 0 := fun e => hd ((form_zero hp).1 e).1
  rw [badV_fuel s s.size (s.size - 1 + 1) p (by omega) (by omega), badV, if_pos (by omega), if_neg hne, form_go hp hne, badV_fuel s (s.size - 1) s.size _ (by omega) (by omega)]
  exact h
theorem bad_ascii {s : ByteArray} {p : Nat} (hp : p < s.size) (hb : bt s p < 128) (h : badV s s.size ((p + 1 : Nat) : Int) = -1) : badV s s.size (p : Int) = -1 := by
  have hd := decode_ascii hb
  refine bad_go hp (by rw [hd]; show bt s p ≠ 65533; omega) ?_
  rw [hd]; exact h
theorem bad_row {w x : ByteArray} : ∀ (n p : Nat), w.size ≤ p + n → p ≤ w.size → rowV w p = w.size → badV (w ++ x) (w ++ x).size (w.size : Int) = -1 → badV (w ++ x) (w ++ x).size (p : Int) = -1
  | n, p, h, hp, e, hb => by
    by_cases hl : p < w.size
    · match n with
      | 0 => omega
      | n + 1 =>
        have h1 := (decode_pos w p).1
        have hle := decode_room hl
        rw [rowV_step hl] at e
        split at e
        · rename_i hpl
          have ed := decode_more (x := x) hl (plain_ne hpl)
          refine bad_go (by rw [app_size]; omega) (by rw [ed]; exact plain_ne hpl) ?_
          rw [ed]
          exact bad_row n _ (by omega) hle e hb
        · omega
    · obtain rfl : p = w.size := by omega
      exact hb
theorem bad_rem (y : ByteArray) (h : badV y y.size 0 = -1) : badV (rem ++ y) (rem ++ y).size 0 = -1 := by
  have hz := rem_size y
  have h2 := badV_shift rem y y.size 0 (by omega)
  rw [show ((0 : Nat) : Int) = 0 from rfl, if_pos h] at h2
  have ha : ∀ i, i < 10 → bt rem i < 128 := by decide +kernel
  have step : ∀ i, i < 10 → badV (rem ++ y) (rem ++ y).size ((i + 1 : Nat) : Int) = -1 → badV (rem ++ y) (rem ++ y).size (i : Int) = -1 := fun i hi hb =>
    bad_ascii (by omega) (by rw [rem_bt y hi]; exact ha i hi) hb
  exact step 0 (by omega) (step 1 (by omega) (step 2 (by omega) (step 3 (by omega) (step 4 (by omega) (step 5 (by omega) (step 6 (by omega) (step 7 (by omega) (step 8 (by omega) (step 9 (by omega) h2)))))))))
theorem bad_pc {k : Int} {w x : ByteArray} (h : Pc k w) (hb : badV x x.size 0 = -1) : badV (w ++ x) (w ++ x).size 0 = -1 := by
  obtain ⟨h1, h2, h3, h4⟩ := h
  have hx := badV_shift w x x.size 0 (by omega)
  rw [show ((0 : Nat) : Int) = 0 from rfl, if_pos hb, Nat.add_zero] at hx
  have hz : 0 < (w ++ x).size := by rw [app_size]; omega
  rcases h4 with ⟨a1, a2, _⟩ | ⟨a1, a2, a3, a4⟩
  · have ha : ∀ n, n < 256 → signB n = true → n < 128 := by decide +kernel
    refine bad_ascii (p := 0) hz (by rw [bt_left h1]; exact ha _ (bt_lt _ _) a1) ?_
    rw [show 0 + 1 = w.size from a2.symm]
    exact hx
  · unfold pieceEnd at a2
    split at a2
    · rename_i c
      refine bad_ascii (p := 0) hz (by rw [bt_left h1, c.1]; omega) ?_
      exact bad_row w.size (0 + 1) (by omega) (by omega) a2 hx
    · exact bad_row w.size 0 (by omega) (by omega) a2 hx
theorem spc_bad {s : ByteArray} : ∀ {l : List Tok} {a : Nat} {r : Int × Int}, Run s a l r → a ≤ s.size → badV (spc s l) (spc s l).size 0 = -1
  | [], a, r, h, ha => badV_end (by show ¬ (0 : Int) < ((ByteArray.empty.size : Nat) : Int); decide)
  | t :: l, a, r, ⟨h1, h2, h3, h4, h5⟩, ha => bad_pc (pc_of ha h1) (bad_rem _ (spc_bad h5 (by omega)))
/-- The tokens of a text that has such. -/
theorem all_run {s : ByteArray} (h : (allV s).2.2 = 0) : s.size ≤ 65536 ∧ badV s s.size 0 = -1 ∧ ∃ r, r.2 = 4 ∧ Run s 0 (allV s).1 r := by
  by_cases hs : s.size ≤ 65536
  rotate_left
  · unfold allV at h
    rw [if_pos (by omega)] at h
    exact absurd h (show ¬ ((2 : Int) = 0) by decide)
  refine ⟨hs, ?_⟩
  rcases bad_cases s with hb | hb
  · refine ⟨hb, ?_⟩
    obtain ⟨l, r, hr⟩ := run_ex s s.size 0 (by omega) (Nat.zero_le _)
    have e := allV_run hs hb hr
    by_cases h4 : r.2 = 4
    · rw [if_pos h4] at e
      rw [e]
      exact ⟨r, h4, hr⟩
    · rw [if_neg h4] at e
      rw [e] at h
      have := run_end hr (Nat.zero_le _)
      have h : r.2 = 0 := h
      omega
  · rw [allV_bad hs hb.1] at h
    exact absurd h (show ¬ ((5 : Int) = 0) by decide)
theorem sim_of {s : ByteArray} {l : List Tok} {s' : ByteArray} {l' : List Tok} (h : l'.map (tx s') = l.map (tx s)) : Sim s l s' l' 0 := by
  have hlen : l'.length = l.length := by have := congrArg List.length h; simpa using this
  have hg : ∀ n, n < l.length → tx s' (l'.getD n tok0) = tx s (l.getD n tok0) := fun n hn => by
    have := congrArg (fun l => l[n]?) h
    simp only [List.getElem?_map] at this
    rw [List.getD_eq_getElem?_getD, List.getD_eq_getElem?_getD]
    rw [List.getElem?_eq_getElem (by omega), List.getElem?_eq_getElem hn] at this ⊢
    exact Option.some.inj this
  refine ⟨by omega, fun n k => ?_, fun n => ?_⟩
  · unfold isV
    rw [Nat.zero_add, hlen]
    by_cases hn : n < l.length
    · rw [show (l'.getD n tok0).k = (l.getD n tok0).k from congrArg Prod.fst (hg n hn)]
    · rw [decide_eq_false hn]; rfl
  · unfold txV
    rw [Nat.zero_add, hlen]
    by_cases hn : n < l.length
    · rw [if_pos hn, if_pos hn]
      exact congrArg Prod.snd (hg n hn)
    · rw [if_neg hn, if_neg hn]
/-- The plain law of TreeSpaces. -/
theorem spaces_plain {s : ByteArray} (hs : s.size ≤ 2000) (h : (allV s).2.2 = 0) :
    (spc s (allV s).1).size ≤ 65536 ∧ (parseV s).2.2 = (parseV (spc s (allV s).1)).2.2 ∧ sameB (parseV s).1 (parseV (spc s (allV s).1)).1 false = true := by
  obtain ⟨_, hb, r, hr4, hr⟩ := all_run h
  have hl := all_len s
  have hz := spc_size hr (Nat.zero_le _)
  obtain ⟨l', g1, g2⟩ := spc_run hr (Nat.zero_le _)
  have e := allV_run (s := spc s (allV s).1) (by omega) (spc_bad hr (Nat.zero_le _)) g1
  rw [if_pos rfl] at e
  refine ⟨by omega, ?_⟩
  refine parse_sim h (by rw [e]) ?_
  rw [e]
  exact sim_of g2
end Go.Proofs.YteeofakohenpoaaDoor

/- Tokens of a text that is put together of words, signs and blanks. -/
namespace Go.Proofs.YteeofakohenpoaaDoor
open Go.Sx
set_option linter.unusedVariables false
set_option linter.unusedSimpArgs false
set_option maxRecDepth 100000

/-- A byte at which a row of letters and digits ends. -/
def softB (c : Nat) : Bool := decide (c < 128) && !letB c && !digB c
def Soft (y : ByteArray) : Prop := y.size = 0 ∨ 0 < y.size ∧ softB (bt y 0) = true
theorem app_empty (w x : ByteArray) (h : x.size = 0) : w ++ x = w := by
  refine ba_inj ?_
  have : x.data.toList = [] := List.eq_nil_of_length_eq_zero (by rw [← size_list]; exact h)
  rw [app_data, this, List.append_nil]
theorem empty_app (w : ByteArray) : ByteArray.empty ++ w = w := ba_inj (by rw [app_data]; rfl)
theorem bt_join (w x : ByteArray) : bt (w ++ x) w.size = bt x 0 := by have := bt_right w x 0; rwa [Nat.add_zero] at this
theorem plain_soft {w x : ByteArray} (h : softB (bt x 0) = true) : plainB (w ++ x) w.size = false := by
  unfold softB at h
  simp only [Bool.and_eq_true, decide_eq_true_eq, Bool.not_eq_true'] at h
  have eb := bt_join w x
  unfold plainB
  rw [decode_ascii (by omega), eb]
  simp only [h.1.2, h.2, Bool.or_false]
theorem rowV_soft {w x : ByteArray} (hs : softB (bt x 0) = true) (hx : 0 < x.size) : ∀ (n p : Nat), w.size ≤ p + n → p ≤ w.size → rowV w p = w.size → rowV (w ++ x) p = w.size
  | n, p, h, hp, e => by
    have hz : w.size < (w ++ x).size := by rw [app_size]; omega
    by_cases hl : p < w.size
    · match n with
      | 0 => omega
      | n + 1 =>
        have h1 := (decode_pos w p).1
        have hle := decode_room hl
        rw [rowV_step hl] at e
        split at e
        · rename_i hb
          have ed := decode_more (x := x) hl (plain_ne hb)
          have hb' : plainB (w ++ x) p = true := by
            unfold plainB at hb ⊢
            rw [ed]; exact hb
          rw [rowV_step (by omega), if_pos hb', ed]
          exact rowV_soft hs hx n _ (by omega) hle e
        · omega
    · obtain rfl : p = w.size := by omega
      rw [rowV_step hz, plain_soft hs]
      rfl
theorem soft_dig {c : Nat} (h : softB c = true) : ¬ (48 ≤ c ∧ c ≤ 57) := fun ⟨h1, h2⟩ => by
  have : ∀ c : Nat, c < 58 → 48 ≤ c → softB c = false := by decide +kernel
  rw [this c (by omega) h1] at h; cases h
theorem pieceEnd_soft {w x : ByteArray} (hw : 0 < w.size) (hs : Soft x) (h : pieceEnd w 0 = w.size) : pieceEnd (w ++ x) 0 = w.size := by
  rcases hs with h0 | ⟨hx, hs⟩
  · rw [app_empty w x h0]; exact h
  unfold pieceEnd at h ⊢
  rw [bt_left hw]
  by_cases c : bt w 0 = 45 ∧ digAt w (0 + 1) = true
  · rw [if_pos c] at h
    obtain ⟨d1, d2, d3⟩ := digAt_lt c.2
    rw [if_pos ⟨c.1, by
      unfold digAt
      rw [bt_left d1, decide_eq_true (show 0 + 1 < (w ++ x).size by rw [app_size]; omega), decide_eq_true d2, decide_eq_true d3]
      rfl⟩]
    exact rowV_soft hs hx w.size _ (by omega) (by omega) h
  · rw [if_neg c] at h
    rw [if_neg (fun hc => c ⟨hc.1, ?_⟩)]
    · exact rowV_soft hs hx w.size _ (by omega) (by omega) h
    · obtain ⟨d1, d2, d3⟩ := digAt_lt hc.2
      have h1 : 1 < w.size := by
        rcases Nat.lt_or_ge 1 w.size with h1 | h1
        · exact h1
        · have e : w.size = 0 + 1 := by omega
          have := bt_join w x
          rw [e] at this
          rw [this] at d2 d3
          exact absurd ⟨d2, d3⟩ (soft_dig hs)
      rw [bt_left h1] at d2 d3
      unfold digAt
      rw [decide_eq_true (show 0 + 1 < w.size from h1), decide_eq_true d2, decide_eq_true d3]
      rfl
theorem kindOf_lt (b : ByteArray) : kindOf b ≠ 4 := by
  unfold kindOf
  split
  · decide
  split
  · decide
  split
  · decide
  · decide
theorem one_soft {k : Int} {w x : ByteArray} (h : Pc k w) (hs : k = 4 ∨ Soft x) : oneN (w ++ x) 0 = (⟨k, 0, (w.size : Int)⟩, 0, 0) := by
  obtain ⟨h1, h2, h3, h4⟩ := h
  have hz : 0 < (w ++ x).size := by rw [app_size]; omega
  have eb : bt (w ++ x) 0 = bt w 0 := bt_left h1
  have hsk : skV (w ++ x) false 0 = 0 := skV_stop hz (by
    rw [eb]
    unfold nextR
    rw [if_neg h3]
    split <;> exact h2)
  rcases h4 with ⟨a1, a2, rfl⟩ | ⟨a1, a2, a3, a4⟩
  · rw [oneN_sign hsk (by omega) (by rw [eb]; exact a1), a2]
    rfl
  · have hs : Soft x := by
      rcases hs with h | h
      · exact absurd (a3.trans h) (kindOf_lt w)
      · exact h
    have ep := pieceEnd_soft h1 hs a2
    have ee : (w ++ x).extract 0 w.size = w := by
      refine ba_inj ?_
      rw [ex_data, app_data, size_list]
      simp
    rw [oneN_ok hsk (by omega) (by rw [eb]; exact a1) (by rw [ep, ee, a3]; exact a4), ep, ee, a3]
    rfl
/-- A text of these tokens. -/
inductive Txt : List (Int × ByteArray) → ByteArray → Prop
  | nil : Txt [] .empty
  | blank (b : ByteArray) (hb : b = ⟨#[32]⟩ ∨ b = ⟨#[10]⟩) {l : List (Int × ByteArray)} {y : ByteArray} (h : Txt l y) : Txt l (b ++ y)
  | tok {k : Int} {w : ByteArray} {l : List (Int × ByteArray)} {y : ByteArray} (hp : Pc k w) (hs : k = 4 ∨ Soft y) (h : Txt l y) : Txt ((k, w) :: l) (w ++ y)
theorem blank_skip {b : ByteArray} (hb : b = ⟨#[32]⟩ ∨ b = ⟨#[10]⟩) (y : ByteArray) : skV (b ++ y) false 0 = skV (b ++ y) false 1 := by
  have hz : (b ++ y).size = y.size + 1 := by
    rw [app_size]
    rcases hb with rfl | rfl
    · show 1 + y.size = _; omega
    · show 1 + y.size = _; omega
  have hc : bt (b ++ y) 0 = 32 ∨ bt (b ++ y) 0 = 10 := by
    rcases hb with rfl | rfl
    · left; rw [bt_left (by decide)]; decide +kernel
    · right; rw [bt_left (by decide)]; decide +kernel
  have hn : nextR (bt (b ++ y) 0) false = false := by rcases hc with h | h <;> rw [h] <;> decide
  rw [skV_go (by omega) (by rw [hn]; rcases hc with h | h <;> rw [h] <;> decide), hn]
theorem blank_size {b : ByteArray} (hb : b = ⟨#[32]⟩ ∨ b = ⟨#[10]⟩) : b.size = 1 := by rcases hb with rfl | rfl <;> rfl
theorem txt_run {l : List (Int × ByteArray)} {y : ByteArray} (h : Txt l y) : (∃ l', Run y 0 l' ((y.size : Int), 4) ∧ l'.map (tx y) = l) ∧ badV y y.size 0 = -1 := by
  induction h with
  | nil => exact ⟨⟨[], ⟨by decide +kernel, show ¬ ((4 : Int) = 0) by decide⟩, rfl⟩, badV_end (by show ¬ (0 : Int) < ((ByteArray.empty.size : Nat) : Int); decide)⟩
  | blank b hb h ih =>
    rename_i l y
    obtain ⟨⟨l', g1, g2⟩, g3⟩ := ih
    have hz := blank_size hb
    refine ⟨⟨l'.map (shT 1), ?_, ?_⟩, ?_⟩
    · have r1 := run_shift b y g1 (Nat.zero_le _)
      rw [hz] at r1
      have e : ((y.size : Int) + ((1 : Nat) : Int)) = ((b ++ y).size : Nat) := by rw [app_size, hz]; omega
      rw [show (((y.size : Int), (4 : Int)).1 + ((1 : Nat) : Int), ((y.size : Int), (4 : Int)).2) = ((((b ++ y).size : Nat) : Int), (4 : Int)) from Prod.ext e rfl] at r1
      exact run_skip (b := 1) (blank_skip hb y) (by omega) r1
    · have := run_tx b y g1
      rw [hz] at this
      rw [this, g2]
    · have hx := badV_shift b y y.size 0 (by omega)
      rw [show ((0 : Nat) : Int) = 0 from rfl, if_pos g3, hz] at hx
      refine bad_ascii (p := 0) (by rw [app_size, hz]; omega) ?_ hx
      rw [bt_left (by omega)]
      rcases hb with rfl | rfl <;> decide +kernel
  | tok hp hs h ih =>
    rename_i k w l y
    obtain ⟨⟨l', g1, g2⟩, g3⟩ := ih
    refine ⟨⟨⟨k, 0, (w.size : Int)⟩ :: l'.map (shT w.size), ?_, ?_⟩, bad_pc hp g3⟩
    · have r1 := run_shift w y g1 (Nat.zero_le _)
      have e : ((y.size : Int) + ((w.size : Nat) : Int)) = ((w ++ y).size : Nat) := by rw [app_size]; omega
      rw [show (((y.size : Int), (4 : Int)).1 + ((w.size : Nat) : Int), ((y.size : Int), (4 : Int)).2) = ((((w ++ y).size : Nat) : Int), (4 : Int)) from Prod.ext e rfl] at r1
      refine ⟨one_soft hp hs, Int.le_refl _, by have := hp.1; show (0 : Int) < w.size; omega, by show (w.size : Int) ≤ _; rw [app_size]; omega, r1⟩
    · rw [List.map_cons, run_tx w y g1, g2]
      congr 1
      show (k, (w ++ y).extract (0 : Int).toNat (w.size : Int).toNat) = (k, w)
      rw [show (0 : Int).toNat = 0 from rfl, show (w.size : Int).toNat = w.size by omega]
      congr 1
      refine ba_inj ?_
      rw [ex_data, app_data, size_list]
      simp
theorem txt_all {l : List (Int × ByteArray)} {y : ByteArray} (h : Txt l y) (hz : y.size ≤ 65536) : (allV y).2.2 = 0 ∧ (allV y).1.map (tx y) = l := by
  obtain ⟨⟨l', g1, g2⟩, g3⟩ := txt_run h
  have e := allV_run hz g3 g1
  rw [if_pos rfl] at e
  rw [e]
  exact ⟨rfl, g2⟩
/-! ### pieces -/
/-- Tokens behind which anything may come; tokens behind which a row must end. -/
def TxH (l : List (Int × ByteArray)) (y : ByteArray) : Prop := ∀ m z, Txt m z → Txt (l ++ m) (y ++ z)
def TxS (l : List (Int × ByteArray)) (y : ByteArray) : Prop := ∀ m z, Txt m z → Soft z → Txt (l ++ m) (y ++ z)
def Beg (y : ByteArray) : Prop := 0 < y.size ∧ softB (bt y 0) = true
theorem Beg.app {y : ByteArray} (h : Beg y) (z : ByteArray) : Beg (y ++ z) := ⟨by rw [app_size]; have := h.1; omega, by rw [bt_left h.1]; exact h.2⟩
theorem Beg.soft {y : ByteArray} (h : Beg y) : Soft y := .inr h
theorem TxH.weak {l : List (Int × ByteArray)} {y : ByteArray} (h : TxH l y) : TxS l y := fun m z hz _ => h m z hz
theorem TxH.app {l m : List (Int × ByteArray)} {y z : ByteArray} (h : TxH l y) (k : TxH m z) : TxH (l ++ m) (y ++ z) := fun n x hx => by
  rw [List.append_assoc, app_assoc]; exact h _ _ (k _ _ hx)
theorem TxH.appS {l m : List (Int × ByteArray)} {y z : ByteArray} (h : TxH l y) (k : TxS m z) : TxS (l ++ m) (y ++ z) := fun n x hx hs => by
  rw [List.append_assoc, app_assoc]; exact h _ _ (k _ _ hx hs)
theorem TxS.app {l m : List (Int × ByteArray)} {y z : ByteArray} (h : TxS l y) (k : TxH m z) (hb : Beg z) : TxH (l ++ m) (y ++ z) := fun n x hx => by
  rw [List.append_assoc, app_assoc]; exact h _ _ (k _ _ hx) (hb.app x).soft
theorem TxS.appS {l m : List (Int × ByteArray)} {y z : ByteArray} (h : TxS l y) (k : TxS m z) (hb : Beg z) : TxS (l ++ m) (y ++ z) := fun n x hx hs => by
  rw [List.append_assoc, app_assoc]; exact h _ _ (k _ _ hx hs) (hb.app x).soft
theorem txh_nil : TxH [] .empty := fun m z hz => by rw [empty_app]; exact hz
theorem txh_sp : TxH [] ⟨#[32]⟩ := fun m z hz => .blank _ (.inl rfl) hz
theorem txh_nl : TxH [] ⟨#[10]⟩ := fun m z hz => .blank _ (.inr rfl) hz
theorem txh_sign {w : ByteArray} (h : Pc 4 w) : TxH [(4, w)] w := fun m z hz => .tok h (.inl rfl) hz
theorem txs_tok {k : Int} {w : ByteArray} (h : Pc k w) : TxS [(k, w)] w := fun m z hz hs => .tok h (.inr hs) hz
theorem beg_sp : Beg ⟨#[32]⟩ := by unfold Beg; decide +kernel
theorem beg_nl : Beg ⟨#[10]⟩ := by unfold Beg; decide +kernel
theorem TxH.txt {l : List (Int × ByteArray)} {y : ByteArray} (h : TxH l y) : Txt l y := by
  have := h [] .empty .nil
  rwa [List.append_nil, app_empty y _ rfl] at this
/-! ### names, words, signs, numbers are pieces -/
instance (k : Int) (w : ByteArray) : Decidable (Pc k w) := by unfold Pc; exact inferInstance
theorem let_byte (c : Nat) (hc : c < 128) (h : letB (c : Int) = true) : stopB false c = true ∧ c ≠ 35 ∧ signB c = false ∧ c ≠ 45 := by
  have : ∀ c : Nat, c < 128 → letB (c : Int) = true → stopB false c = true ∧ c ≠ 35 ∧ signB c = false ∧ c ≠ 45 := by decide +kernel
  exact this c hc h
theorem high_byte (c : Nat) (hc : 128 ≤ c) (h2 : c < 256) : stopB false c = true ∧ c ≠ 35 ∧ signB c = false ∧ c ≠ 45 := by
  have : ∀ c : Nat, c < 256 → 128 ≤ c → stopB false c = true ∧ c ≠ 35 ∧ signB c = false ∧ c ≠ 45 := by decide +kernel
  exact this c h2 hc
theorem nameW_row (s : ByteArray) : ∀ (n p : Nat) (c : Int), s.size ≤ p + n → p ≤ s.size → nameW s n p c = true → rowV s p = s.size
  | n, p, c, h, hp, hw => by
    by_cases hl : p < s.size
    · match n with
      | 0 => omega
      | n + 1 =>
        rw [nameW, if_pos hl] at hw
        split at hw
        · cases hw
        · rename_i h1
          split at hw
          · cases hw
          · have hd := decode_pos s p
            have hr := decode_room hl
            have hb : plainB s p = true := by
              unfold plainB
              revert h1
              cases letB (Utf8.decode s p).1 <;> cases digB (Utf8.decode s p).1 <;> simp
            rw [rowV_step hl, if_pos hb]
            exact nameW_row s n _ (c + 1) (by omega) hr hw
    · rw [rowV_end (by omega)]; omega
theorem pc_name {s : ByteArray} (h : okN s = true) : Pc 1 s := by
  unfold okN at h
  simp only [Bool.and_eq_true, Bool.not_eq_true'] at h
  obtain ⟨hn, hw⟩ := h
  have hn' : nameW s s.size 0 0 = true := hn
  have hpos : 0 < s.size := by
    rcases Nat.eq_zero_or_pos s.size with h0 | h0
    · rw [h0] at hn'; exact absurd hn' (by rw [nameW]; decide)
    · exact h0
  have hlet : letB (Utf8.decode s 0).1 = true := by
    obtain ⟨n, hn2⟩ : ∃ n, s.size = n + 1 := ⟨s.size - 1, by omega⟩
    rw [hn2, nameW, if_pos hpos] at hn'
    split at hn'
    · cases hn'
    · rename_i h1
      revert h1
      cases letB (Utf8.decode s 0).1 <;> simp
  have hrow := nameW_row s s.size 0 0 (by omega) (Nat.zero_le _) hn'
  have hb : stopB false (bt s 0) = true ∧ bt s 0 ≠ 35 ∧ signB (bt s 0) = false ∧ bt s 0 ≠ 45 := by
    rcases Nat.lt_or_ge (bt s 0) 128 with h1 | h1
    · refine let_byte _ h1 ?_
      rw [decode_ascii h1] at hlet
      exact hlet
    · exact high_byte _ h1 (bt_lt _ _)
  refine ⟨hpos, hb.1, hb.2.1, .inr ⟨hb.2.2.1, ?_, kind_name hw hn, by decide⟩⟩
  unfold pieceEnd
  rw [if_neg (fun h => hb.2.2.2 h.1)]
  exact hrow
theorem digs_all : ∀ (k u : Nat), u < 10 ^ (k + 1) → ∀ c, c ∈ digs u → 48 ≤ c.toNat ∧ c.toNat ≤ 57
  | 0, u, h, c, hc => by
    rw [digs_lt (by simpa using h)] at hc
    obtain rfl := List.mem_singleton.1 hc
    rw [UInt8.toNat_ofNat']
    have : u < 10 := by simpa using h
    omega
  | k + 1, u, h, c, hc => by
    by_cases hu : u < 10
    · rw [digs_lt hu] at hc
      obtain rfl := List.mem_singleton.1 hc
      rw [UInt8.toNat_ofNat']
      omega
    · rw [digs_ge hu] at hc
      rcases List.mem_append.1 hc with hc | hc
      · exact digs_all k (u / 10) (by rw [Nat.pow_succ] at h; omega) c hc
      · obtain rfl := List.mem_singleton.1 hc
        rw [UInt8.toNat_ofNat']
        omega
theorem row_digs (s : ByteArray) : ∀ (n p : Nat), s.size ≤ p + n → p ≤ s.size → (∀ i, p ≤ i → i < s.size → 48 ≤ bt s i ∧ bt s i ≤ 57) → rowV s p = s.size
  | n, p, h, hp, hd => by
    by_cases hl : p < s.size
    · match n with
      | 0 => omega
      | n + 1 =>
        obtain ⟨h1, h2⟩ := hd p (Nat.le_refl _) hl
        obtain ⟨b1, b2⟩ := dig_plain (s := s) (p := p) (by unfold digAt; rw [decide_eq_true hl, decide_eq_true h1, decide_eq_true h2]; rfl)
        rw [rowV_step hl, if_pos b1, b2]
        exact row_digs s n (p + 1) (by omega) (by omega) fun i hi hi2 => hd i (by omega) hi2
    · rw [rowV_end (by omega)]; omega
theorem bt_ba (l : List UInt8) (i : Nat) : bt (ba l) i = (l.getD i 0).toNat := by
  have := sb_bt (ba l) i
  unfold sb at this
  have e : (ba l).data.toList = l := by simp [ba]
  rw [e] at this
  omega
theorem ba_size (l : List UInt8) : (ba l).size = l.length := by show l.toArray.size = l.length; simp
theorem pc_num {n : Int} (hn : inI64 n) : Pc 3 (showV n) := by
  have hb := num_back n hn
  unfold inI64 at hn
  obtain ⟨c, r, e1, e2, e3, e4⟩ := digs_head n.natAbs
  have hall := digs_all 19 n.natAbs (by omega)
  have hsz : (showV n).size = (sgV n).length + (digs n.natAbs).length := by unfold showV; rw [ba_size, List.length_append]
  have hdl : 0 < (digs n.natAbs).length := by rw [e1]; simp
  have hat : ∀ i, (sgV n).length ≤ i → i < (showV n).size → 48 ≤ bt (showV n) i ∧ bt (showV n) i ≤ 57 := fun i h1 h2 => by
    unfold showV
    rw [bt_ba, List.getD_eq_getElem?_getD, List.getElem?_append_right h1]
    have hlt : i - (sgV n).length < (digs n.natAbs).length := by omega
    rw [List.getElem?_eq_getElem hlt]
    exact hall _ (List.getElem_mem hlt)
  have hnot : ∀ c0 : Nat, (48 ≤ c0 ∧ c0 ≤ 57 ∨ c0 = 45) → stopB false c0 = true ∧ c0 ≠ 35 ∧ signB c0 = false ∧ letB (c0 : Int) = false := fun c0 h => by
    have : ∀ c0 : Nat, c0 < 58 → (48 ≤ c0 ∧ c0 ≤ 57 ∨ c0 = 45) → stopB false c0 = true ∧ c0 ≠ 35 ∧ signB c0 = false ∧ letB (c0 : Int) = false := by decide +kernel
    exact this c0 (by omega) h
  have h0 : (48 ≤ bt (showV n) 0 ∧ bt (showV n) 0 ≤ 57 ∨ bt (showV n) 0 = 45) ∧ (n < 0 → bt (showV n) 0 = 45) ∧ (¬ n < 0 → bt (showV n) 0 ≠ 45) := by
    by_cases hneg : n < 0
    · have : bt (showV n) 0 = 45 := by unfold showV sgV; rw [if_pos hneg, bt_ba]; rfl
      exact ⟨.inr this, fun _ => this, fun h => absurd hneg h⟩
    · have := hat 0 (by unfold sgV; rw [if_neg hneg]; exact Nat.le_refl _) (by omega)
      exact ⟨.inl this, fun h => absurd h hneg, fun _ => by omega⟩
  obtain ⟨g1, g2, g3, g4⟩ := hnot _ h0.1
  have hpos : 0 < (showV n).size := by omega
  have hdec : Utf8.decode (showV n) 0 = (bt (showV n) 0, 1) := decode_ascii (by rcases h0.1 with h | h <;> omega)
  have hname : nameB (showV n) = false := by
    unfold nameB
    obtain ⟨m, hm⟩ : ∃ m, (showV n).size = m + 1 := ⟨(showV n).size - 1, by omega⟩
    rw [hm, nameW, if_pos hpos, hdec]
    simp [g4]
  have hword : wordB (showV n) = false := by
    unfold wordB
    rw [decide_eq_false_iff_not]
    intro hw
    have hw2 : ∀ l, l ∈ wordsL → letB ((l.getD 0 0).toNat : Int) = true := by decide +kernel
    have := hw2 _ hw
    have e : bt (showV n) 0 = ((showV n).data.toList.getD 0 0).toNat := by
      have := sb_bt (showV n) 0
      unfold sb at this
      omega
    rw [← e, g4] at this
    cases this
  refine ⟨hpos, g1, g2, .inr ⟨g3, ?_, ?_, by decide⟩⟩
  · unfold pieceEnd
    by_cases hneg : n < 0
    · have hs1 : (sgV n).length = 1 := by unfold sgV; rw [if_pos hneg]; rfl
      have hd1 := hat 1 (by omega) (by omega)
      rw [if_pos ⟨h0.2.1 hneg, by unfold digAt; rw [decide_eq_true (show 0 + 1 < (showV n).size by omega), decide_eq_true hd1.1, decide_eq_true hd1.2]; rfl⟩]
      exact row_digs _ (showV n).size _ (by omega) (by omega) fun i hi hi2 => hat i (by omega) hi2
    · have hs1 : (sgV n).length = 0 := by unfold sgV; rw [if_neg hneg]; rfl
      rw [if_neg (fun h => h0.2.2 hneg h.1)]
      exact row_digs _ (showV n).size _ (by omega) (by omega) fun i hi hi2 => hat i (by omega) hi2
  · exact kind_num hword hname (by rw [hb])
end Go.Proofs.YteeofakohenpoaaDoor

/- What an instruction that may be has. -/
namespace Go.Proofs.YteeofakohenpoaaDoor
open Go.Sx
set_option linter.unusedVariables false
set_option linter.unusedSimpArgs false
set_option maxRecDepth 100000

/-! ### instructions -/
theorem fits_on {s : ByteArray} (h : fitsV s true = true) : okN s = true := by unfold fitsV at h; simpa using h
theorem fits_off {s : ByteArray} (h : fitsV s false = true) : s = .empty := joinB_one.ba_inj8 (by unfold fitsV at h; simpa using h)
theorem allN_at {l : List ByteArray} (h : allN l = true) {i : Nat} (hi : i < l.length) : okN (l.getD i .empty) = true := List.all_eq_true.1 h _ (getD_mem hi)
/-- What an instruction that may be has. -/
structure RIn (x : Ins) (n : Int) (d r a : Bool) : Prop where
  args : allN x.args = true
  frm : x.frm = []
  alen : (0 ≤ n → (x.args.length : Int) = n) ∧ x.args.length ≤ 6
  dst : fitsV x.dst d = true
  ref : fitsV x.ref r = true
  alt : fitsV x.alt a = true
  op : x.op ≠ 0 ↔ x.kind = 2
  num : x.num ≠ 0 → x.kind = 1
structure RPhi (x : Ins) : Prop where
  args : allN x.args = true
  frm : allN x.frm = true
  dst : okN x.dst = true
  ref : x.ref = .empty
  alt : x.alt = .empty
  len : x.frm.length = x.args.length ∧ 1 ≤ x.frm.length ∧ x.frm.length ≤ 64
  op : x.op = 0
  num : x.num = 0
theorem right_cases {x : Ins} (h : rightI x = true) : (x.kind = 3 ∧ RPhi x) ∨ ∃ n d r a, shapeV x.kind = some (n, d, r, a) ∧ x.kind ≠ 3 ∧ RIn x n d r a ∧ (x.kind = 2 → (opName x.op).data.toList ≠ []) := by
  unfold rightI at h
  split at h
  · cases h
  rename_i h0
  simp only [Bool.or_eq_true, not_or, Bool.not_eq_true, Bool.not_eq_false'] at h0
  obtain ⟨⟨⟨⟨ho, hop⟩, hnum⟩, ha⟩, hf⟩ := h0
  have ho : x.op ≠ 0 ↔ x.kind = 2 := by
    by_cases c1 : x.op = 0 <;> by_cases c2 : x.kind = 2 <;> simp [c1, c2] at ho ⊢
  have hnum : x.num ≠ 0 → x.kind = 1 := fun h => by
    by_cases c2 : x.kind = 1
    · exact c2
    · simp [h, c2] at hnum
  have hop : x.op ≠ 0 → (opName x.op).data.toList ≠ [] := fun h h2 => by simp [h, h2] at hop
  split at h
  · rename_i hk
    simp only [Bool.and_eq_true, decide_eq_true_eq] at h
    obtain ⟨⟨⟨⟨⟨h1, h2⟩, h3⟩, h4⟩, h5⟩, h6⟩ := h
    refine .inl ⟨hk, ha, hf, h1, joinB_one.ba_inj8 h2, joinB_one.ba_inj8 h3, ⟨h4, h5, h6⟩, ?_, ?_⟩
    · exact Classical.byContradiction fun hne => by have := ho.1 hne; omega
    · exact Classical.byContradiction fun hne => by have := hnum hne; omega
  · rename_i hk
    split at h
    · cases h
    · rename_i n d r a hs
      simp only [Bool.and_eq_true, Bool.not_eq_true', Bool.or_eq_false_iff, decide_eq_false_iff_not] at h
      obtain ⟨⟨⟨h1, h2⟩, h3⟩, ⟨h4, h5⟩, h6⟩ := h
      have hlen : 0 ≤ n → (x.args.length : Int) = n := fun hn => by
        by_cases c : (x.args.length : Int) = n
        · exact c
        · simp [hn, c] at h2
      exact .inr ⟨n, d, r, a, hs, hk, ⟨ha, List.eq_nil_of_length_eq_zero (by omega), ⟨hlen, by omega⟩, h4, h5, h6, ho, hnum⟩, fun hk2 => hop (ho.2 hk2)⟩
end Go.Proofs.YteeofakohenpoaaDoor

/- The tokens of what is written. -/
namespace Go.Proofs.YteeofakohenpoaaDoor
open Go.Sx
set_option linter.unusedVariables false
set_option linter.unusedSimpArgs false
set_option maxRecDepth 100000

abbrev Tks := List (Int × ByteArray)
/-- With a , between. -/
def commaT : List Tks → Tks
  | [] => []
  | [a] => a
  | a :: b :: l => a ++ (4, ⟨#[44]⟩) :: commaT (b :: l)
def tkNs (l : List ByteArray) : Tks := commaT (l.map fun w => [(1, w)])
def tkPairs (x : Ins) : Tks := commaT ((List.range x.frm.length).map fun i => [(1, x.frm.getD i .empty), (4, ⟨#[58]⟩), (1, x.args.getD i .empty)])
def tkV (x : Ins) : Tks :=
  if x.kind = 1 then [(2, ⟨#[99, 111, 110, 115, 116]⟩), (3, showV x.num)]
  else if x.kind = 2 then [(2, opName x.op), (1, x.args.getD 0 .empty), (1, x.args.getD 1 .empty)]
  else if x.kind = 3 then (2, ⟨#[112, 104, 105]⟩) :: (4, ⟨#[91]⟩) :: (tkPairs x ++ [(4, ⟨#[93]⟩)])
  else if x.kind = 4 then [(2, ⟨#[108, 111, 97, 100]⟩), (1, x.ref), (1, x.args.getD 0 .empty)]
  else if x.kind = 5 then [(2, ⟨#[119, 114, 97, 112]⟩), (1, x.ref), (1, x.args.getD 0 .empty)]
  else if x.kind = 7 then (2, ⟨#[99, 97, 108, 108]⟩) :: (1, x.ref) :: (4, ⟨#[40]⟩) :: (tkNs x.args ++ [(4, ⟨#[41]⟩)])
  else if x.kind = 8 then [(2, ⟨#[105, 110, 112, 117, 116]⟩), (1, x.ref)]
  else [(2, ⟨#[114, 101, 108, 101, 97, 115, 101]⟩), (1, x.args.getD 0 .empty), (1, x.ref)]
def tkI (x : Ins) : Tks :=
  if x.kind = 6 then [(2, ⟨#[115, 116, 111, 114, 101]⟩), (1, x.ref), (1, x.args.getD 0 .empty), (1, x.args.getD 1 .empty)]
  else if x.kind = 9 then [(2, ⟨#[111, 117, 116, 112, 117, 116]⟩), (1, x.ref), (1, x.args.getD 0 .empty)]
  else if x.kind = 11 then [(2, ⟨#[106, 117, 109, 112]⟩), (1, x.ref)]
  else if x.kind = 12 then [(2, ⟨#[98, 114, 97, 110, 99, 104]⟩), (1, x.args.getD 0 .empty), (1, x.ref), (1, x.alt)]
  else if x.kind = 13 then [(2, ⟨#[114, 101, 116, 117, 114, 110]⟩), (1, x.args.getD 0 .empty)]
  else (1, x.dst) :: (4, ⟨#[61]⟩) :: tkV x
def tkC (l : List Ins) : Tks := (l.map tkI).flatten
def tkB (b : Blk) : Tks := (1, b.name) :: (4, ⟨#[58]⟩) :: tkC b.code
def tkBs (l : List Blk) : Tks := (l.map tkB).flatten
def tkF (f : Fun) : Tks := (2, ⟨#[102, 110]⟩) :: (1, f.name) :: (4, ⟨#[40]⟩) :: (tkNs f.params ++ (4, ⟨#[41]⟩) :: (4, ⟨#[123]⟩) :: (tkBs f.blocks ++ [(4, ⟨#[125]⟩)]))
def tkA (a : Arr) : Tks := [(2, ⟨#[97, 114, 114, 97, 121]⟩), (1, a.name), (3, showV a.size), (1, a.level)]
def tkP (p : Prg) : Tks := (p.arrays.map tkA).flatten ++ (p.funcs.map tkF).flatten

/-! ### lines of these -/
theorem join_sp : ∀ (l : List (Tks × ByteArray)), l ≠ [] → (∀ a, a ∈ l → TxS a.1 a.2) → TxS (l.map (·.1)).flatten (joinB (l.map (·.2)) spS)
  | [], h, _ => absurd rfl h
  | [a], _, h => by
    rw [List.map_cons, List.map_nil, List.map_cons, List.map_nil, joinB_one, List.flatten_cons, List.flatten_nil, List.append_nil]
    exact h a (by simp)
  | a :: b :: l, _, h => by
    have ih := join_sp (b :: l) (by simp) (fun c hc => h c (by simp [List.mem_cons] at hc ⊢; exact .inr hc))
    show TxS (a.1 ++ ((b :: l).map (·.1)).flatten) (joinB (a.2 :: b.2 :: l.map (·.2)) spS)
    rw [joinB_cons]
    refine (h a (by simp)).appS (m := ((b :: l).map (·.1)).flatten) ?_ (beg_sp.app _)
    have := txh_sp.appS ih
    rwa [List.nil_append] at this
theorem txh_comma : TxH [(4, ⟨#[44]⟩)] commaS := by
  have h1 : TxH [(4, (⟨#[44]⟩ : ByteArray))] ⟨#[44]⟩ := txh_sign (by decide +kernel)
  have := h1.app txh_sp
  rwa [List.append_nil, show ((⟨#[44]⟩ : ByteArray) ++ (⟨#[32]⟩ : ByteArray)) = commaS by decide +kernel] at this
theorem beg_comma : Beg commaS := by unfold Beg; decide +kernel
theorem join_comma : ∀ (l : List (Tks × ByteArray)), l ≠ [] → (∀ a, a ∈ l → TxS a.1 a.2) → TxS (commaT (l.map (·.1))) (joinB (l.map (·.2)) commaS)
  | [], h, _ => absurd rfl h
  | [a], _, h => by
    rw [List.map_cons, List.map_nil, List.map_cons, List.map_nil, joinB_one]
    exact h a (by simp)
  | a :: b :: l, _, h => by
    have ih := join_comma (b :: l) (by simp) (fun c hc => h c (by simp [List.mem_cons] at hc ⊢; exact .inr hc))
    show TxS (a.1 ++ (4, ⟨#[44]⟩) :: commaT ((b :: l).map (·.1))) (joinB (a.2 :: b.2 :: l.map (·.2)) commaS)
    rw [joinB_cons]
    exact (h a (by simp)).appS (m := (4, ⟨#[44]⟩) :: commaT ((b :: l).map (·.1))) (txh_comma.appS ih) (beg_comma.app _)
theorem sp2 {ta tb : Tks} {a b : ByteArray} (h1 : TxS ta a) (h2 : TxS tb b) : TxS (ta ++ tb) (joinB [a, b] spS) := by
  have := join_sp [(ta, a), (tb, b)] (by simp) (fun c hc => by simp at hc; rcases hc with rfl | rfl <;> assumption)
  simpa using this
theorem sp3 {ta tb tc : Tks} {a b c : ByteArray} (h1 : TxS ta a) (h2 : TxS tb b) (h3 : TxS tc c) : TxS (ta ++ (tb ++ tc)) (joinB [a, b, c] spS) := by
  have := join_sp [(ta, a), (tb, b), (tc, c)] (by simp) (fun c hc => by simp at hc; rcases hc with rfl | rfl | rfl <;> assumption)
  simpa using this
theorem sp4 {ta tb tc td : Tks} {a b c d : ByteArray} (h1 : TxS ta a) (h2 : TxS tb b) (h3 : TxS tc c) (h4 : TxS td d) : TxS (ta ++ (tb ++ (tc ++ td))) (joinB [a, b, c, d] spS) := by
  have := join_sp [(ta, a), (tb, b), (tc, c), (td, d)] (by simp) (fun c hc => by simp at hc; rcases hc with rfl | rfl | rfl | rfl <;> assumption)
  simpa using this
theorem txs_name {s : ByteArray} (h : okN s = true) : TxS [(1, s)] s := txs_tok (pc_name h)
theorem sg {w : ByteArray} (h : Pc 4 w) : TxH [(4, w)] w := txh_sign h
theorem beg40 : Beg ⟨#[40]⟩ := by unfold Beg; decide +kernel
theorem beg41 : Beg ⟨#[41]⟩ := by unfold Beg; decide +kernel
theorem beg58 : Beg ⟨#[58]⟩ := by unfold Beg; decide +kernel
theorem beg93 : Beg ⟨#[93]⟩ := by unfold Beg; decide +kernel
/-- Names in brackets, from behind the first bracket on. -/
theorem tx_names {l : List ByteArray} (h : allN l = true) {tz : Tks} {z : ByteArray} (hz : TxH tz z) (hb : Beg z) : TxH (tkNs l ++ tz) (joinB l commaS ++ z) := by
  cases l with
  | nil =>
    rw [joinB_nil, empty_app]; exact hz
  | cons a l =>
    have := join_comma ((a :: l).map fun w => ([(1, w)], w)) (by simp) (fun c hc => by
      obtain ⟨w, hw, rfl⟩ := List.mem_map.1 hc
      exact txs_name (List.all_eq_true.1 h w hw))
    rw [List.map_map, List.map_map] at this
    have e : ((a :: l).map ((fun x : Tks × ByteArray => x.2) ∘ fun w => ([(1, w)], w))) = a :: l := by
      rw [show ((fun x : Tks × ByteArray => x.2) ∘ fun w => (([(1, w)] : Tks), w)) = id from rfl, List.map_id]
    rw [e] at this
    exact TxS.app this hz hb
theorem tx_pairs {x : Ins} (h1 : ∀ i, i < x.frm.length → okN (x.frm.getD i .empty) = true ∧ okN (x.args.getD i .empty) = true) (h0 : 1 ≤ x.frm.length) {tz : Tks} {z : ByteArray} (hz : TxH tz z) (hb : Beg z) :
    TxH (tkPairs x ++ tz) (joinB (phiN x x.frm.length) commaS ++ z) := by
  have := join_comma ((List.range x.frm.length).map fun i => (([(1, x.frm.getD i .empty), (4, ⟨#[58]⟩), (1, x.args.getD i .empty)] : Tks), (x.frm.getD i .empty ++ (⟨#[58, 32]⟩ : ByteArray)) ++ x.args.getD i .empty)) (by
      intro e
      have := congrArg List.length e
      rw [List.length_map, List.length_range] at this
      simp only [List.length_nil] at this
      omega) (fun c hc => by
      obtain ⟨i, hi, rfl⟩ := List.mem_map.1 hc
      obtain ⟨g1, g2⟩ := h1 i (List.mem_range.1 hi)
      have hc : TxH [(4, (⟨#[58]⟩ : ByteArray))] ⟨#[58, 32]⟩ := by
        have h1 : TxH [(4, (⟨#[58]⟩ : ByteArray))] ⟨#[58]⟩ := txh_sign (by decide +kernel)
        have := h1.app txh_sp
        rwa [List.append_nil, show ((⟨#[58]⟩ : ByteArray) ++ (⟨#[32]⟩ : ByteArray)) = ⟨#[58, 32]⟩ by decide +kernel] at this
      exact ((txs_name g1).app hc (by unfold Beg; decide +kernel)).appS (txs_name g2))
  rw [List.map_map, List.map_map] at this
  exact TxS.app this hz hb
end Go.Proofs.YteeofakohenpoaaDoor

/- What is written is read as it was: the parser over these tokens. -/
namespace Go.Proofs.YteeofakohenpoaaDoor
open Go.Sx
set_option linter.unusedVariables false
set_option linter.unusedSimpArgs false
set_option maxRecDepth 100000

def hdT : Tks → ByteArray
  | [] => .empty
  | (_, w) :: _ => w
/-- From token n on stand these, and no more. -/
def AtT (s : ByteArray) (l : List Tok) (n : Nat) (T : Tks) : Prop := n ≤ l.length ∧ (l.map (tx s)).drop n = T
section
variable {s : ByteArray} {l : List Tok} {n : Nat} {T : Tks}
theorem AtT.of (h : l.map (tx s) = T) : AtT s l 0 T := ⟨Nat.zero_le _, by rw [List.drop_zero]; exact h⟩
theorem AtT.len (h : AtT s l n T) : l.length = n + T.length := by
  have := congrArg List.length h.2
  simp only [List.length_drop, List.length_map] at this
  have := h.1
  omega
theorem AtT.hd {k : Int} {w : ByteArray} (h : AtT s l n ((k, w) :: T)) : n < l.length ∧ (l.getD n tok0).k = k ∧ txV s l n = w ∧ AtT s l (n + 1) T := by
  have hl := h.len
  rw [List.length_cons] at hl
  have hn : n < l.length := by omega
  have h2 := h.2
  have hn' : n < (l.map (tx s)).length := by rw [List.length_map]; exact hn
  rw [List.drop_eq_getElem_cons hn'] at h2
  obtain ⟨e1, e2⟩ := List.cons.inj h2
  rw [List.getElem_map] at e1
  have e3 : l.getD n tok0 = l[n] := by rw [List.getD_eq_getElem?_getD, List.getElem?_eq_getElem hn]; rfl
  refine ⟨hn, ?_, ?_, by omega, e2⟩
  · rw [e3]; exact congrArg Prod.fst e1
  · unfold txV
    rw [if_pos hn, e3]
    exact congrArg Prod.snd e1
theorem AtT.app : ∀ {A : Tks} {n : Nat}, AtT s l n (A ++ T) → AtT s l (n + A.length) T
  | [], n, h => h
  | (k, w) :: A, n, h => by
    have := AtT.app (A := A) h.hd.2.2.2
    rw [List.length_cons]
    rwa [show n + 1 + A.length = n + (A.length + 1) by omega] at this
theorem AtT.text (h : AtT s l n T) : txV s l n = hdT T := by
  match T, h with
  | [], h =>
    have := h.len
    unfold txV
    rw [if_neg (by simp at this; omega)]
    rfl
  | (k, w) :: T, h => exact h.hd.2.2.1
theorem AtT.kind {k k2 : Int} {w : ByteArray} (h : AtT s l n ((k, w) :: T)) : isV l n k2 = decide (k = k2) := by
  unfold isV
  rw [decide_eq_true h.hd.1, h.hd.2.1]
  rfl
theorem AtT.is {k : Int} {w : ByteArray} (h : AtT s l n ((k, w) :: T)) : isV l n k = true := by rw [h.kind]; simp
theorem f_nm {w : ByteArray} (h : AtT s l n ((1, w) :: T)) : nmV s l n = .ok (n + 1, w) := by
  unfold nmV
  rw [if_pos h.is, h.hd.2.2.1]
theorem f_need {k : Int} {w : ByteArray} {b : UInt8} (h : AtT s l n ((k, w) :: T)) (hw : w.data.toList = [b]) : needV s l n b = .ok (n + 1, ()) := by
  unfold needV
  rw [h.hd.2.2.1, if_pos hw]
theorem not_sign {a : ByteArray} (h : okN a = true) {b : UInt8} (hb : signB b.toNat = true) : a.data.toList ≠ [b] := fun e => by
  obtain ⟨_, _, _, h4⟩ := pc_name h
  have e2 : bt a 0 = b.toNat := by
    have := sb_bt a 0
    unfold sb at this
    rw [e] at this
    have h2 : ((b.toNat : Nat) : Int) = (bt a 0 : Int) := this
    omega
  rcases h4 with ⟨_, _, h5⟩ | ⟨h5, _⟩
  · exact absurd h5 (by decide)
  · rw [e2, hb] at h5; cases h5
theorem tkNs_cons (a b : ByteArray) (r : List ByteArray) : tkNs (a :: b :: r) = (1, a) :: (4, ⟨#[44]⟩) :: tkNs (b :: r) := rfl
theorem f_namesF : ∀ (ws : List ByteArray) (f n k : Nat) (o : List ByteArray), ws ≠ [] → ws.length ≤ f → k + ws.length ≤ 6 → AtT s l n (tkNs ws ++ T) → (hdT T).data.toList ≠ [44] → namesF s l f n k o = .ok (n + (tkNs ws).length, o ++ ws)
  | [], _, _, _, _, h, _, _, _, _ => absurd rfl h
  | [a], f, n, k, o, _, hf, hk, h, ht => by
    obtain ⟨f, rfl⟩ : ∃ g, f = g + 1 := ⟨f - 1, by simp at hf; omega⟩
    have h : AtT s l n ((1, a) :: T) := h
    simp only [List.length_cons, List.length_nil] at hk
    rw [namesF, if_pos h.is, if_neg (by omega), h.hd.2.2.1, h.hd.2.2.2.text, if_neg ht]
    rfl
  | a :: b :: r, f, n, k, o, _, hf, hk, h, ht => by
    obtain ⟨f, rfl⟩ : ∃ g, f = g + 1 := ⟨f - 1, by simp at hf; omega⟩
    rw [tkNs_cons] at h
    have h : AtT s l n ((1, a) :: (4, ⟨#[44]⟩) :: (tkNs (b :: r) ++ T)) := h
    simp only [List.length_cons] at hk hf
    have h2 := h.hd.2.2.2
    have ih := f_namesF (b :: r) f (n + 2) (k + 1) (o ++ [a]) (by simp) (by simp; omega) (by simp; omega) h2.hd.2.2.2 ht
    rw [namesF, if_pos h.is, if_neg (by omega), h.hd.2.2.1, h2.hd.2.2.1, if_pos rfl, ih, tkNs_cons, List.append_assoc]
    simp only [List.length_cons]
    rw [show n + 2 + (tkNs (b :: r)).length = n + ((tkNs (b :: r)).length + 1 + 1) by omega]
    rfl
theorem f_names {ws : List ByteArray} (hw : allN ws = true) (h6 : ws.length ≤ 6) (h : AtT s l n ((4, ⟨#[40]⟩) :: (tkNs ws ++ (4, ⟨#[41]⟩) :: T))) : namesV s l n = .ok (n + 2 + (tkNs ws).length, ws) ∧ AtT s l (n + 2 + (tkNs ws).length) T := by
  have h1 := h.hd.2.2.2
  have hl := h.len
  have h2 : AtT s l (n + 1 + (tkNs ws).length) ((4, ⟨#[41]⟩) :: T) := h1.app
  refine ⟨?_, ?_⟩
  · unfold namesV
    rw [h.hd.2.2.1, if_pos rfl]
    match ws, hw, h6, h1, h2, hl with
    | [], _, _, h1, h2, hl =>
      have h1 : AtT s l (n + 1) ((4, ⟨#[41]⟩) :: T) := h1
      rw [h1.hd.2.2.1, if_pos rfl]
      rfl
    | a :: r, hw, h6, h1, h2, hl =>
      have ha : okN a = true := List.all_eq_true.1 hw a (by simp)
      have ht : txV s l (n + 1) = a := by
        rw [h1.text]
        cases r <;> rfl
      rw [ht, if_neg (not_sign ha (by decide))]
      have hlen : (a :: r).length ≤ (tkNs (a :: r)).length := by
        have : ∀ ws : List ByteArray, ws.length ≤ (tkNs ws).length := fun ws => by
          induction ws with
          | nil => exact Nat.zero_le _
          | cons a r ih => cases r with
            | nil => exact Nat.le_refl _
            | cons b r => rw [tkNs_cons]; simp only [List.length_cons] at ih ⊢; omega
        exact this _
      rw [f_namesF (a :: r) (l.length + 2) (n + 1) 0 [] (by simp) (by rw [hl]; simp only [List.length_cons, List.length_append] at hlen ⊢; omega) (by omega) h1 (show ¬ ([41] : List UInt8) = [44] by decide)]
      unfold closeV
      dsimp only
      rw [h2.hd.2.2.1, if_pos rfl, show n + 1 + (tkNs (a :: r)).length + 1 = n + 2 + (tkNs (a :: r)).length by omega]
      rfl
  · have := h2.hd.2.2.2
    rwa [show n + 1 + (tkNs ws).length + 1 = n + 2 + (tkNs ws).length by omega] at this
/-! ### pairs -/
def tkPL (ps : List (ByteArray × ByteArray)) : Tks := commaT (ps.map fun p => [(1, p.1), (4, ⟨#[58]⟩), (1, p.2)])
theorem tkPL_cons (a b : ByteArray × ByteArray) (r : List (ByteArray × ByteArray)) : tkPL (a :: b :: r) = (1, a.1) :: (4, ⟨#[58]⟩) :: (1, a.2) :: (4, ⟨#[44]⟩) :: tkPL (b :: r) := rfl
theorem f_pair {p : ByteArray × ByteArray} {x : Ins} (h : AtT s l n ((1, p.1) :: (4, ⟨#[58]⟩) :: (1, p.2) :: T)) : pairV s l n x = .ok (n + 3, { x with frm := x.frm ++ [p.1], args := x.args ++ [p.2] }) := by
  unfold pairV
  have h1 := h.hd.2.2.2
  have h2 := h1.hd.2.2.2
  rw [f_nm h]
  simp only [bnd]
  rw [f_need h1 rfl]
  simp only
  rw [f_nm h2]
theorem f_pairsF : ∀ (ps : List (ByteArray × ByteArray)) (f n k : Nat) (x : Ins), ps ≠ [] → ps.length ≤ f → k + ps.length ≤ 64 → AtT s l n (tkPL ps ++ T) → (hdT T).data.toList ≠ [44] → pairsF s l f n k x = .ok (n + (tkPL ps).length, { x with frm := x.frm ++ ps.map (·.1), args := x.args ++ ps.map (·.2) })
  | [], _, _, _, _, h, _, _, _, _ => absurd rfl h
  | [a], f, n, k, x, _, hf, hk, h, ht => by
    obtain ⟨f, rfl⟩ : ∃ g, f = g + 1 := ⟨f - 1, by simp at hf; omega⟩
    have h : AtT s l n ((1, a.1) :: (4, ⟨#[58]⟩) :: (1, a.2) :: T) := h
    simp only [List.length_cons, List.length_nil] at hk
    rw [pairsF, if_neg (by omega), f_pair h]
    simp only [bnd]
    rw [h.hd.2.2.2.hd.2.2.2.hd.2.2.2.text, if_neg ht]
    rfl
  | a :: b :: r, f, n, k, x, _, hf, hk, h, ht => by
    obtain ⟨f, rfl⟩ : ∃ g, f = g + 1 := ⟨f - 1, by simp at hf; omega⟩
    rw [tkPL_cons] at h
    have h : AtT s l n ((1, a.1) :: (4, ⟨#[58]⟩) :: (1, a.2) :: (4, ⟨#[44]⟩) :: (tkPL (b :: r) ++ T)) := h
    simp only [List.length_cons] at hk hf
    have h3 := h.hd.2.2.2.hd.2.2.2.hd.2.2.2
    have ih := f_pairsF (b :: r) f (n + 4) (k + 1) { x with frm := x.frm ++ [a.1], args := x.args ++ [a.2] } (by simp) (by simp; omega) (by simp; omega) h3.hd.2.2.2 ht
    rw [pairsF, if_neg (by omega), f_pair h]
    simp only [bnd]
    rw [h3.hd.2.2.1, if_pos rfl, show n + 3 + 1 = n + 4 from rfl, ih, tkPL_cons]
    simp only [List.length_cons, List.map_cons, List.append_assoc, List.cons_append, List.nil_append]
    rw [show n + 4 + (tkPL (b :: r)).length = n + ((tkPL (b :: r)).length + 1 + 1 + 1 + 1) by omega]
theorem range_get {α : Type} (l : List α) (d : α) : (List.range l.length).map (fun i => l.getD i d) = l := by
  apply List.ext_getElem
  · simp
  · intro i h1 h2
    simp at h1
    simp [h1]
theorem pairs_PL {x : Ins} : tkPairs x = tkPL ((List.range x.frm.length).map fun i => (x.frm.getD i .empty, x.args.getD i .empty)) := by
  unfold tkPairs tkPL
  rw [List.map_map]
  rfl
theorem f_phi {x x0 : Ins} (hx : x.frm.length = x.args.length ∧ 1 ≤ x.frm.length ∧ x.frm.length ≤ 64) (h0 : x0.frm = [] ∧ x0.args = []) (h : AtT s l n ((4, ⟨#[91]⟩) :: (tkPairs x ++ (4, ⟨#[93]⟩) :: T))) :
    phiV s l n x0 = .ok (n + 2 + (tkPairs x).length, { x0 with kind := 3, frm := x.frm, args := x.args }) ∧ AtT s l (n + 2 + (tkPairs x).length) T := by
  have h1 := h.hd.2.2.2
  have hl := h.len
  have h2 : AtT s l (n + 1 + (tkPairs x).length) ((4, ⟨#[93]⟩) :: T) := h1.app
  refine ⟨?_, ?_⟩
  · unfold phiV
    rw [f_need h rfl]
    simp only [bnd]
    have hlen : ∀ ps : List (ByteArray × ByteArray), ps.length ≤ (tkPL ps).length := fun ps => by
      induction ps with
      | nil => exact Nat.zero_le _
      | cons a r ih => cases r with
        | nil => show 1 ≤ 3; omega
        | cons b r => rw [tkPL_cons]; simp only [List.length_cons] at ih ⊢; omega
    rw [pairs_PL] at h1 h2 hl ⊢
    have hlr : ((List.range x.frm.length).map fun i => (x.frm.getD i .empty, x.args.getD i .empty)).length = x.frm.length := by simp
    have hl2 := hlen ((List.range x.frm.length).map fun i => (x.frm.getD i .empty, x.args.getD i .empty))
    rw [f_pairsF _ (l.length + 1) (n + 1) 0 _ (fun e => by rw [e] at hlr; simp at hlr; omega) (by rw [hl]; simp only [List.length_cons, List.length_append]; omega) (by omega) h1 (show ¬ ([93] : List UInt8) = [44] by decide)]
    unfold closeV
    dsimp only
    rw [h2.hd.2.2.1, if_pos rfl, h0.1, h0.2]
    have e1 : ((List.range x.frm.length).map fun i => (x.frm.getD i .empty, x.args.getD i .empty)).map (·.1) = x.frm := by
      rw [List.map_map]; exact range_get x.frm .empty
    have e2 : ((List.range x.frm.length).map fun i => (x.frm.getD i .empty, x.args.getD i .empty)).map (·.2) = x.args := by
      rw [List.map_map, hx.1]; exact range_get x.args .empty
    rw [e1, e2, List.nil_append, List.nil_append]
    congr 2
    omega
  · have := h2.hd.2.2.2
    rwa [show n + 1 + (tkPairs x).length + 1 = n + 2 + (tkPairs x).length by omega] at this
end
end Go.Proofs.YteeofakohenpoaaDoor

/- What the printer asks of names and instructions. -/
namespace Go.Proofs.YteeofakohenpoaaDoor
open Go.Sx
set_option linter.unusedVariables false
set_option linter.unusedSimpArgs false
set_option maxRecDepth 100000

abbrev okL : Nat := 140737488355328
abbrev bigN : Nat := 10000000000000
theorem pname_spec (s : ByteArray) (hs : s.size ≤ okL) : Pure PG 28 [vs s] (vb (okN s)) [] := by
  refine Proc.mk (cfg 10) tysOK [] Tryd.func28 rfl (by kernel_rfl) rfl rfl rfl ?_
  intro C x
  refine x.pure rfl trivial rfl (name_spec s (by unfold okL at hs; omega)) ⟨rfl, trivial⟩ ?_
  refine x.pureG rfl trivial rfl (fun _ => word_spec s) rfl ⟨rfl, trivial⟩ ?_
  refine x.exit rfl trivial ?_
  refine ⟨.inr rfl, ?_, trivial, rfl⟩
  rfl
theorem allN_F (l : List ByteArray) : allF (fun i => okN (l.getD i .empty)) l.length 0 = allN l := by
  rw [Bool.eq_iff_iff, allF_iff]
  unfold allN
  rw [List.all_eq_true]
  constructor
  · intro h x hx
    obtain ⟨i, hi, rfl⟩ := List.getElem_of_mem hx
    have := h i (Nat.zero_le _) (by omega)
    rwa [List.getD_eq_getElem?_getD, List.getElem?_eq_getElem hi] at this
  · intro h j _ hj
    exact h _ (getD_mem (by omega))
theorem pnames_spec (l : List ByteArray) (hl : l.length ≤ bigN) (hs : ∀ a, a ∈ l → a.size ≤ okL) : Pure PG 50 [.d (dStrs l)] (vb (allN l)) [] := by
  refine Proc.mk (cfg 15) tysOK [] Tryd.func50 rfl (by kernel_rfl) rfl rfl rfl ?_
  intro C x
  unfold bigN at hl
  obtain ⟨R, hR⟩ : ∃ R, allN l = R := ⟨_, rfl⟩
  have hR2 : allF (fun i => okN (l.getD i .empty)) l.length 0 = R := by rw [allN_F]; exact hR
  rw [hR]
  refine x.loop (α := AW (fun i => okN (l.getD i .empty)) l.length R) (fun y => ⟨[(5, .d (dStrs l)), (6, vi l.length), (7, vi (y.i : Int))], [], 0⟩) (fun y => l.length - y.i) ⟨0, Nat.zero_le _, hR2⟩ rfl trivial ⟨⟨veq_d rfl, rfl, rfl, trivial⟩, trivial, rfl⟩ (fun y => ?_)
  obtain ⟨i, hi, same⟩ := y
  change Go C _ ⟨[(5, .d (dStrs l)), (6, vi l.length), (7, vi (i : Int))], [], 0⟩ _
  refine x.cond rfl trivial (fun h2 => ?_) (fun h2 => ?_)
  · have h2 : (i : Int) < (l.length : Int) := of_decide_eq_true h2
    have h2 : i < l.length := by omega
    refine x.pure rfl (by simp only [AllP]; omega) rfl (pname_spec (l.getD ((i : Int).toNat) .empty) (hs _ (by rw [Int.toNat_natCast]; exact getD_mem h2))) ⟨rfl, trivial⟩ ?_
    rw [Int.toNat_natCast]
    refine x.cond rfl trivial (fun h3 => ?_) (fun h3 => ?_)
    · have h3 : (!okN (l.getD i .empty)) = true := h3
      refine x.exit rfl trivial ?_
      rw [AW.stop h2 same (by simpa using h3)]
      exact ⟨.inr rfl, rfl, trivial, rfl⟩
    · have h3 : (!okN (l.getD i .empty)) = false := h3
      refine x.back rfl (by simp only [AllP, inI64]; omega) ⟨⟨i + 1, by omega, AW.step h2 same (by simpa using h3)⟩, by show l.length - (i + 1) < l.length - i; omega, ⟨veq_d rfl, rfl, ?_, trivial⟩, trivial, rfl⟩
      show VEq0 (vi ((i : Int) + 1)) (vi ((i + 1 : Nat) : Int)); rw [Int.natCast_add]; rfl
  · have h2 : ¬ (i : Int) < (l.length : Int) := of_decide_eq_false h2
    refine x.exit rfl trivial ?_
    rw [AW.fin (by omega) hi same]
    exact ⟨.inr rfl, rfl, trivial, rfl⟩
theorem fits_spec (s : ByteArray) (b : Bool) (hs : s.size ≤ okL) : Pure PG 55 [vs s, vb b] (vb (fitsV s b)) [] := by
  refine Proc.mk (cfg 18) tysOK [] Tryd.func55 rfl (by kernel_rfl) rfl rfl rfl ?_
  intro C x
  refine x.pureG rfl trivial rfl (fun _ => pname_spec s hs) rfl ⟨rfl, trivial⟩ ?_
  refine x.exit rfl trivial ?_
  refine ⟨.inr rfl, ?_, trivial, rfl⟩
  unfold fitsV
  cases b
  · rfl
  · cases okN s <;> rfl
theorem opname_spec (o : Int) (h0 : 0 ≤ o) (h1 : o < 256) : Pure PG 53 [.d (.int .u8 o)] (vs (opName o)) [] := by
  refine Proc.mk (cfg 9) tysOK [] Tryd.func53 rfl (by kernel_rfl) rfl rfl rfl ?_
  intro C x
  refine x.cond rfl (by simp only [AllP, inI64]; omega) (fun h => ?_) (fun h => ?_)
  · have h : 13 ≤ o := of_decide_eq_true h
    refine x.exit rfl trivial ?_
    unfold opName
    rw [if_pos h]
    exact ⟨.inr rfl, rfl, trivial, rfl⟩
  · have h : ¬ 13 ≤ o := of_decide_eq_false h
    refine x.glob (fun j => .str (opAt j)) rfl trivial rfl names_at ⟨h0, by omega⟩ ?_
    refine x.exit rfl trivial ?_
    unfold opName
    rw [if_neg h]
    exact ⟨.inr rfl, rfl, trivial, rfl⟩
def shapesT : List (Key × V) := [(.inr 1, .agg [vi 0, vb true, vb false, vb false]), (.inr 2, .agg [vi 2, vb true, vb false, vb false]), (.inr 4, .agg [vi 1, vb true, vb true, vb false]), (.inr 5, .agg [vi 1, vb true, vb true, vb false]), (.inr 6, .agg [vi 2, vb false, vb true, vb false]), (.inr 7, .agg [vi (-1), vb true, vb true, vb false]), (.inr 8, .agg [vi 0, vb true, vb true, vb false]), (.inr 9, .agg [vi 1, vb false, vb true, vb false]), (.inr 10, .agg [vi 1, vb true, vb true, vb false]), (.inr 11, .agg [vi 0, vb false, vb true, vb false]), (.inr 12, .agg [vi 1, vb false, vb true, vb true]), (.inr 13, .agg [vi 1, vb false, vb false, vb false])]
theorem shapes_spec : Pure PG 54 [] (.own 0) [.tbl shapesT] := by
  refine Proc.mk (cfg 15) tysOK [0] Tryd.func54 rfl (by kernel_rfl) rfl rfl rfl ?_
  intro C x
  refine x.exit rfl ?_ ?_
  · simp only [AllP, newKey, keyEq]
    simp
  · exact ⟨.inr rfl, rfl, ⟨⟨rfl, rfl, rfl, rfl, rfl, rfl, rfl, rfl, rfl, rfl, rfl, rfl, rfl, rfl, rfl, rfl, rfl, rfl, rfl, rfl, rfl, rfl, rfl, rfl, trivial⟩, trivial⟩, rfl⟩
theorem lkGoals_of {k : Key} {G : V → Bool → Prop} {z : V} : ∀ {es : List (Key × V)}, G ((tblAt k es).getD z) (tblAt k es).isSome → lkGoals k G z es
  | [], h => h
  | (a, v) :: r, h => by
    unfold tblAt at h
    refine ⟨fun hk => ?_, fun hk => ?_⟩
    · rw [if_pos hk] at h; exact h
    · rw [if_neg hk] at h; exact lkGoals_of h
theorem tbl_pos {k n : Int} {v : V} {r : List (Key × V)} (e : k = n) : tblAt (.inr k) ((.inr n, v) :: r) = some v := by
  unfold tblAt
  exact if_pos e
theorem tbl_neg {k n : Int} {v : V} {r : List (Key × V)} (e : ¬ k = n) : tblAt (.inr k) ((.inr n, v) :: r) = tblAt (.inr k) r := by
  conv => lhs; unfold tblAt
  exact if_neg e
def shV (p : Int × Bool × Bool × Bool) : V := .agg [vi p.1, vb p.2.1, vb p.2.2.1, vb p.2.2.2]
theorem shapes_at (k : Int) : tblAt (.inr k) shapesT = (shapeV k).map shV := by
  unfold shapesT shapeV
  by_cases e1 : k = 1
  · rw [tbl_pos e1, if_pos e1]; rfl
  rw [tbl_neg e1, if_neg e1]
  by_cases e2 : k = 2
  · rw [tbl_pos e2, if_pos e2]; rfl
  rw [tbl_neg e2, if_neg e2]
  by_cases e4 : k = 4
  · rw [tbl_pos e4, if_pos e4]; rfl
  rw [tbl_neg e4, if_neg e4]
  by_cases e5 : k = 5
  · rw [tbl_pos e5, if_pos e5]; rfl
  rw [tbl_neg e5, if_neg e5]
  by_cases e6 : k = 6
  · rw [tbl_pos e6, if_pos e6]; rfl
  rw [tbl_neg e6, if_neg e6]
  by_cases e7 : k = 7
  · rw [tbl_pos e7, if_pos e7]; rfl
  rw [tbl_neg e7, if_neg e7]
  by_cases e8 : k = 8
  · rw [tbl_pos e8, if_pos e8]; rfl
  rw [tbl_neg e8, if_neg e8]
  by_cases e9 : k = 9
  · rw [tbl_pos e9, if_pos e9]; rfl
  rw [tbl_neg e9, if_neg e9]
  by_cases e10 : k = 10
  · rw [tbl_pos e10, if_pos e10]; rfl
  rw [tbl_neg e10, if_neg e10]
  by_cases e11 : k = 11
  · rw [tbl_pos e11, if_pos e11]; rfl
  rw [tbl_neg e11, if_neg e11]
  by_cases e12 : k = 12
  · rw [tbl_pos e12, if_pos e12]; rfl
  rw [tbl_neg e12, if_neg e12]
  by_cases e13 : k = 13
  · rw [tbl_pos e13, if_pos e13]; rfl
  rw [tbl_neg e13, if_neg e13]
  rfl
theorem lk_some {k : Int} {G : V → Bool → Prop} {z : V} {q : Int × Bool × Bool × Bool} (h : shapeV k = some q) (g : G (shV q) true) : lkGoals (.inr k) G z shapesT :=
  lkGoals_of (by rw [shapes_at, h]; exact g)
theorem lk_none {k : Int} {G : V → Bool → Prop} {z : V} (h : shapeV k = none) (g : G z false) : lkGoals (.inr k) G z shapesT :=
  lkGoals_of (by rw [shapes_at, h]; exact g)
end Go.Proofs.YteeofakohenpoaaDoor
