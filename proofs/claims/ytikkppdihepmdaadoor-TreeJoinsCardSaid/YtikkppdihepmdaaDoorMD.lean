/- Texts put together: T17H, T17I, T17J, T17K, T03G, T03H, T17L, T17Q, T17P. -/
import Derived.Test.YtikkppdihepmdaaDoorMC
import Derived.Test.YtikkppdihepmdaaDoorMB

/- Programs that are read are small; each is like itself; the chapter's examples. -/
namespace Go.Proofs.YtikkppdihepmdaaDoor
open Go.Sx
set_option linter.unusedVariables false
set_option linter.unusedSimpArgs false
set_option maxRecDepth 100000
section
variable {s : ByteArray} {l : List Tok}
/-- What holds of the value, if there is one. -/
def Okk {α : Type} (p : α → Prop) (r : Except (Int × Int) (Nat × α)) : Prop := ∀ n x, r = .ok (n, x) → p x
theorem okk_bnd {α β : Type} {p : α → Prop} {q : β → Prop} {r : Except (Int × Int) (Nat × α)} {k : Nat → α → Except (Int × Int) (Nat × β)} (h1 : Okk p r) (h2 : ∀ n a, p a → Okk q (k n a)) : Okk q (bnd r k) := fun n x e => by
  rcases r with e1 | ⟨n1, a⟩
  · cases e
  · exact h2 n1 a (h1 n1 a rfl) n x e
theorem okk_any {α : Type} {r : Except (Int × Int) (Nat × α)} : Okk (fun _ => True) r := fun _ _ _ => trivial
theorem okk_ok {α : Type} {p : α → Prop} {n : Nat} {x : α} (h : p x) : Okk p (.ok (n, x)) := fun n' y e => by
  simp only [Except.ok.injEq, Prod.mk.injEq] at e
  rw [← e.2]; exact h
theorem okk_err {α : Type} {p : α → Prop} {e : Int × Int} : Okk (α := α) p (.error e) := fun _ _ h => by cases h
def Sm (k : Nat) (x : Ins) : Prop := x.args.length ≤ k ∧ x.frm.length ≤ k
theorem sm_arg {k n : Nat} {x : Ins} (h : Sm k x) : Okk (Sm (k + 1)) (argV s l n x) := okk_bnd okk_any fun n a _ => okk_ok ⟨by rw [List.length_append]; simp only [List.length_cons, List.length_nil]; have := h.1; omega, Nat.le_succ_of_le h.2⟩
theorem sm_one {n : Nat} {k : Nat} {x : Ins} (h : Sm k x) : Okk (Sm (k + 1)) (oneV7 s l n x) := okk_bnd okk_any fun n a _ => okk_ok ⟨by simp, Nat.le_succ_of_le h.2⟩
theorem sm_ref {n : Nat} {k : Nat} {x : Ins} (h : Sm k x) : Okk (Sm k) (refV s l n x) := okk_bnd okk_any fun n a _ => okk_ok h
theorem names_len {n : Nat} : Okk (fun o => o.length ≤ 6) (namesV s l n) := by
  unfold namesV
  split
  · split
    · exact okk_ok (by simp)
    · intro n' o e
      rcases hF : namesF s l (l.length + 2) (n + 1) 0 [] with er | ⟨n1, o1⟩
      · rw [hF] at e; cases e
      · rw [hF] at e
        have h1 := (namesF_le hF).2.2 rfl (by omega)
        simp only [closeV] at e
        split at e
        · simp only [Except.ok.injEq, Prod.mk.injEq] at e
          rw [← e.2]; exact h1
        · cases e
  · exact okk_err
theorem sm_pairs : ∀ (f n k : Nat) (x : Ins) (j : Nat), Sm j x → Okk (Sm (j + f)) (pairsF s l f n k x)
  | 0, n, k, x, j, h => okk_err
  | f + 1, n, k, x, j, h => by
    rw [pairsF]
    split
    · exact okk_err
    · refine okk_bnd (p := Sm (j + 1)) ?_ fun n' y hy => ?_
      · exact okk_bnd okk_any fun _ _ _ => okk_bnd okk_any fun _ _ _ => okk_bnd okk_any fun _ _ _ => okk_ok ⟨by rw [List.length_append]; simp only [List.length_cons, List.length_nil]; have := h.1; omega, by rw [List.length_append]; simp only [List.length_cons, List.length_nil]; have := h.2; omega⟩
      · split
        · have := sm_pairs f (n' + 1) (k + 1) y (j + 1) hy
          rw [show j + 1 + f = j + (f + 1) by omega] at this
          exact this
        · exact okk_ok ⟨by have := hy.1; omega, by have := hy.2; omega⟩
theorem sm_close {b : UInt8} {p : Ins → Prop} {r : Except (Int × Int) (Nat × Ins)} (h : Okk p r) : Okk p (closeV s l b r) := by
  rw [closeV_bnd]
  exact okk_bnd h fun n o ho => okk_bnd okk_any fun _ _ _ => okk_ok ho
theorem Sm.up {k j : Nat} {x : Ins} (h : Sm k x) (hk : k ≤ j) : Sm j x := ⟨Nat.le_trans h.1 hk, Nat.le_trans h.2 hk⟩
theorem okk_up {α : Type} {p q : α → Prop} {r : Except (Int × Int) (Nat × α)} (h : Okk p r) (hq : ∀ x, p x → q x) : Okk q r := fun n x e => hq x (h n x e)
abbrev cap (l : List Tok) : Nat := l.length + 10
theorem sm_word {n : Nat} {x : Ins} {w : List UInt8} (h : Sm 0 x) : Okk (Sm (cap l)) (wordV s l n x w) := by
  have up : ∀ {j : Nat} {r : Except (Int × Int) (Nat × Ins)}, j ≤ cap l → Okk (Sm j) r → Okk (Sm (cap l)) r := fun hj hr => okk_up hr fun _ hx => hx.up hj
  have h0 : ∀ k : Int, Sm 0 ({ x with kind := k } : Ins) := fun k => h
  unfold wordV
  split
  · unfold constV; split
    · exact okk_ok ((show Sm 0 x from h).up (Nat.zero_le _))
    · exact okk_err
  split
  · exact up (j := 1) (by show _ ≤ _ + 10; omega) (okk_bnd (sm_ref (h0 4)) fun n y hy => sm_one hy)
  split
  · exact up (j := 1) (by show _ ≤ _ + 10; omega) (okk_bnd (sm_ref (h0 5)) fun n y hy => sm_one hy)
  split
  · exact up (j := 0) (Nat.zero_le _) (sm_ref (h0 8))
  split
  · exact up (j := 6) (by show _ ≤ _ + 10; omega) (okk_bnd (sm_ref (h0 7)) fun n y hy => okk_bnd names_len fun n o ho => okk_ok ⟨ho, Nat.le_trans hy.2 (by omega)⟩)
  split
  · exact up (j := 1) (by show _ ≤ _ + 10; omega) (okk_bnd (sm_one (h0 10)) fun n y hy => sm_ref hy)
  split
  · exact up (j := 0 + (l.length + 1)) (by show _ ≤ l.length + 10; omega) (okk_bnd okk_any fun n1 _ _ => sm_close (sm_pairs (s := s) (l := l) (l.length + 1) n1 0 _ 0 (h0 3)))
  · exact okk_err
theorem sm_value {n : Nat} {x : Ins} (h : Sm 0 x) : Okk (Sm (cap l)) (valueV s l n x) := by
  unfold valueV
  split
  · exact okk_up (okk_bnd (sm_arg (k := 0) h) fun n y hy => sm_arg hy) fun y hy => hy.up (by show _ ≤ _ + 10; omega)
  · exact sm_word h
theorem sm_act {w : List UInt8} {f : Nat → Ins → Except (Int × Int) (Nat × Ins)} (hf : actV s l w = some f) {n : Nat} {x : Ins} (h : Sm 0 x) : Okk (Sm (cap l)) (f n x) := by
  have up : ∀ {j : Nat} {r : Except (Int × Int) (Nat × Ins)}, j ≤ 10 → Okk (Sm j) r → Okk (Sm (cap l)) r := fun hj hr => okk_up hr fun _ hx => hx.up (by show _ ≤ l.length + 10; omega)
  unfold actV at hf
  split at hf
  · obtain rfl := Option.some.inj hf
    exact up (j := 2) (by omega) (okk_bnd okk_any fun n a _ => okk_bnd (sm_arg (k := 0) h) fun n y hy => okk_bnd (sm_arg hy) fun n y hy => okk_ok hy)
  split at hf
  · obtain rfl := Option.some.inj hf
    exact up (j := 1) (by omega) (okk_bnd okk_any fun n a _ => okk_bnd (sm_arg (k := 0) h) fun n y hy => okk_ok hy)
  split at hf
  · obtain rfl := Option.some.inj hf
    exact up (j := 0) (by omega) (okk_bnd okk_any fun n a _ => okk_ok h)
  split at hf
  · obtain rfl := Option.some.inj hf
    exact up (j := 1) (by omega) (okk_bnd (sm_arg (k := 0) (x := { x with kind := 12 }) h) fun n y hy => okk_bnd okk_any fun n a _ => okk_bnd okk_any fun n a _ => okk_ok hy)
  split at hf
  · obtain rfl := Option.some.inj hf
    exact up (j := 1) (by omega) (okk_bnd (sm_arg (k := 0) (x := { x with kind := 13 }) h) fun n y hy => okk_ok hy)
  · cases hf
theorem sm_instr {n c : Nat} : Okk (Sm (cap l)) (instrV s l n c) := by
  have h0 : ∀ a, Sm 0 (ins0 a) := fun a => ⟨Nat.le_refl _, Nat.le_refl _⟩
  unfold instrV
  split
  · exact okk_err
  split
  · exact okk_err
  split
  · exact okk_err
  split
  · rename_i f hf
    exact sm_act hf (h0 _)
  · exact okk_bnd okk_any fun n1 d _ => okk_bnd okk_any fun n2 _ _ => sm_value (x := { ins0 (atV s l n) with dst := d }) (h0 (atV s l n))
theorem sm_code : ∀ (f n c : Nat) (xs : List Ins) (j : Nat), xs.length ≤ j → (∀ x, x ∈ xs → Sm (cap l) x) → Okk (fun q : Nat × List Ins => q.2.length ≤ j + f ∧ ∀ x, x ∈ q.2 → Sm (cap l) x) (codeF s l f n c xs)
  | 0, n, c, xs, j, hj, hx => okk_err
  | f + 1, n, c, xs, j, hj, hx => by
    rw [codeF]
    split
    · exact okk_ok ⟨by show xs.length ≤ _; omega, hx⟩
    · refine okk_bnd sm_instr fun n' y hy => ?_
      have := sm_code f n' (c + 1) (xs ++ [y]) (j + 1) (by rw [List.length_append]; simp only [List.length_cons, List.length_nil]; omega) fun x hx' => by
        rcases List.mem_append.1 hx' with h | h
        · exact hx x h
        · obtain rfl := List.mem_singleton.1 h; exact hy
      rw [show j + 1 + f = j + (f + 1) by omega] at this
      exact this
def SmB (l : List Tok) (b : Blk) : Prop := b.code.length ≤ 4098 ∧ ∀ x, x ∈ b.code → Sm (cap l) x
theorem sm_block {n c : Nat} : Okk (fun q : Nat × Blk => SmB l q.2) (blockV s l n c) :=
  okk_bnd okk_any fun n1 nm _ => okk_bnd okk_any fun n2 _ _ => okk_bnd (sm_code 4098 n2 c [] 0 (by simp) (by simp)) fun n3 q hq => okk_ok ⟨by have := hq.1; show q.2.length ≤ _; omega, hq.2⟩
theorem sm_blocks : ∀ (f n c : Nat) (bs : List Blk) (j : Nat), bs.length ≤ j → (∀ x, x ∈ bs → SmB l x) → Okk (fun q : Nat × List Blk => q.2.length ≤ j + f ∧ ∀ x, x ∈ q.2 → SmB l x) (blocksF s l f n c bs)
  | 0, n, c, xs, j, hj, hx => okk_err
  | f + 1, n, c, xs, j, hj, hx => by
    rw [blocksF]
    split
    · split
      · exact okk_err
      · refine okk_bnd sm_block fun n' y hy => ?_
        have := sm_blocks f n' y.1 (xs ++ [y.2]) (j + 1) (by rw [List.length_append]; simp only [List.length_cons, List.length_nil]; omega) fun x hx' => by
          rcases List.mem_append.1 hx' with h | h
          · exact hx x h
          · obtain rfl := List.mem_singleton.1 h; exact hy
        rw [show j + 1 + f = j + (f + 1) by omega] at this
        exact this
    · exact okk_ok ⟨by show xs.length ≤ _; omega, hx⟩
def SmF (l : List Tok) (f : Fun) : Prop := f.params.length ≤ 6 ∧ f.blocks.length ≤ 66 ∧ ∀ b, b ∈ f.blocks → SmB l b
theorem sm_func {n c : Nat} : Okk (fun q : Nat × Fun => SmF l q.2) (funcV s l n c) :=
  okk_bnd okk_any fun n1 nm _ => okk_bnd names_len fun n2 ps hp => okk_bnd okk_any fun n3 _ _ => okk_bnd sm_block fun n4 r hr =>
    okk_bnd (sm_blocks 65 n4 r.1 [r.2] 1 (by simp) (fun x hx => by obtain rfl := List.mem_singleton.1 hx; exact hr)) fun n5 q hq => okk_bnd okk_any fun n6 _ _ => okk_ok ⟨hp, by have := hq.1; show q.2.length ≤ _; omega, hq.2⟩
theorem sm_prog : ∀ (f n c : Nat) (p : Prg) (j : Nat), p.arrays.length ≤ j → p.funcs.length ≤ j → (∀ x, x ∈ p.funcs → SmF l x) → Okk (fun q : Prg => q.arrays.length ≤ j + f ∧ q.funcs.length ≤ j + f ∧ ∀ x, x ∈ q.funcs → SmF l x) (progF s l f n c p)
  | 0, n, c, p, j, h1, h2, h3 => okk_err
  | f + 1, n, c, p, j, h1, h2, h3 => by
    rw [progF]
    split
    · split
      · split
        · exact okk_err
        · refine okk_bnd okk_any fun n' x _ => ?_
          have := sm_prog f n' c ⟨p.arrays ++ [x], p.funcs⟩ (j + 1) (by rw [List.length_append]; simp only [List.length_cons, List.length_nil]; omega) (by show p.funcs.length ≤ _; omega) h3
          rw [show j + 1 + f = j + (f + 1) by omega] at this
          exact this
      · split
        · split
          · exact okk_err
          · refine okk_bnd sm_func fun n' y hy => ?_
            have := sm_prog f n' y.1 ⟨p.arrays, p.funcs ++ [y.2]⟩ (j + 1) (by show p.arrays.length ≤ _; omega) (by rw [List.length_append]; simp only [List.length_cons, List.length_nil]; omega) fun x hx' => by
              rcases List.mem_append.1 hx' with h | h
              · exact h3 x h
              · obtain rfl := List.mem_singleton.1 h; exact hy
            rw [show j + 1 + f = j + (f + 1) by omega] at this
            exact this
        · exact okk_err
    · exact okk_ok ⟨by omega, by omega, h3⟩
end
theorem parse_small (s : ByteArray) : SmallP (parseV s).1 := by
  have hnil : SmallP ⟨[], []⟩ := ⟨Nat.zero_le _, Nat.zero_le _, fun f hf => by cases hf⟩
  unfold parseV
  split
  · rename_i h0
    have hsm := all_small h0
    have hl := all_len s
    have hp := sm_prog (s := s) (l := (allV s).1) ((allV s).1.length + 1) 0 0 ⟨[], []⟩ 0 (Nat.zero_le _) (Nat.zero_le _) (fun x hx => by cases hx)
    rcases hP : progF s (allV s).1 ((allV s).1.length + 1) 0 0 ⟨[], []⟩ with ⟨a, e⟩ | ⟨n, p⟩
    · exact hnil
    · obtain ⟨h1, h2, h3⟩ := hp n p hP
      refine ⟨by unfold bigL; show p.arrays.length ≤ _; omega, by unfold bigL; show p.funcs.length ≤ _; omega, fun f hf => ?_⟩
      obtain ⟨g1, g2, g3⟩ := h3 f hf
      refine ⟨by unfold bigL; omega, by unfold bigL; omega, fun b hb => ?_⟩
      obtain ⟨k1, k2⟩ := g3 b hb
      refine ⟨by unfold bigL; omega, fun x hx => ?_⟩
      have k3 := k2 x hx
      unfold Sm cap at k3
      exact ⟨by unfold bigL; omega, by unfold bigL; omega⟩
  · exact hnil

/-! ### each is like itself -/
theorem allF_true {f : Nat → Bool} {k i : Nat} (h : ∀ j, f j = true) : allF f k i = true := allF_iff.2 fun j _ _ => h j
theorem textsB_self (a : List ByteArray) : textsB a a = true := by
  unfold textsB
  rw [decide_eq_true rfl, allF_true fun j => decide_eq_true rfl]; rfl
theorem sameInsB_self (a : Ins) (p : Bool) : sameInsB a a p = true := by
  unfold sameInsB
  simp [textsB_self]
theorem sameBlkB_self (a : Blk) (p : Bool) : sameBlkB a a p = true := by
  unfold sameBlkB
  rw [allF_true (f := sameCodeB a.code a.code p) fun j => sameInsB_self _ p]
  simp
theorem sameFunB_self (a : Fun) (p : Bool) : sameFunB a a p = true := by
  unfold sameFunB
  rw [allF_true fun j => sameBlkB_self _ p, textsB_self]
  simp
theorem sameArrB_self (a : Arr) (p : Bool) : sameArrB a a p = true := by
  unfold sameArrB
  simp
theorem sameB_self (a : Prg) (p : Bool) : sameB a a p = true := by
  unfold sameB
  rw [allF_true fun j => sameArrB_self _ p, allF_true fun j => sameFunB_self _ p]
  simp
end Go.Proofs.YtikkppdihepmdaaDoor

/- The chapter's examples. -/
namespace Go.Proofs.YtikkppdihepmdaaDoor
open Go.Sx
set_option linter.unusedVariables false
set_option linter.unusedSimpArgs false
set_option maxRecDepth 100000

def exA : ByteArray := ⟨#[102, 110, 32, 109, 97, 105, 110, 40, 41, 32, 123, 32, 97, 58, 32, 120, 32, 61, 32, 99, 111, 110, 115, 116, 32, 55, 32, 111, 117, 116, 112, 117, 116, 32, 110, 101, 116, 32, 120, 32, 114, 101, 116, 117, 114, 110, 32, 120, 32, 125]⟩
def exB : ByteArray := ⟨#[97, 114, 114, 97, 121, 32, 116, 32, 48, 32, 108, 111, 119]⟩
theorem exA_e : (parseV exA).2.2 = 0 ∧ (parseV exA).1.funcs.length = 1 ∧ ((parseV exA).1.funcs.getD 0 fun0).blocks.length = 1 ∧ (((parseV exA).1.funcs.getD 0 fun0).blocks.getD 0 blk0).code.length = 3 := by decide +kernel
theorem exB_e : (parseV exB).2.2 = 12 ∧ (parseV exB).2.1 = 8 := by decide +kernel
set_option maxHeartbeats 2000000 in
theorem awake7_spec : Pure PG 10 [] (vb true) [] := by
  refine Proc.mk (cfg 54) tysOK [] Tryd.func10 rfl (by kernel_rfl) rfl rfl rfl ?_
  intro C x
  have s1 : exA.size ≤ 4611686018427387904 := by show (50 : Nat) ≤ _; decide
  have s2 : exB.size ≤ 4611686018427387904 := by show (13 : Nat) ≤ _; decide
  refine x.pure rfl trivial rfl (parse7_spec exA s1) ⟨rfl, trivial⟩ ?_
  refine x.pure rfl trivial rfl (parse7_spec exB s2) ⟨rfl, trivial⟩ ?_
  obtain ⟨a1, a2, a3, a4⟩ := exA_e
  obtain ⟨b1, b2⟩ := exB_e
  obtain ⟨PA, hA⟩ : ∃ P, parseV exA = P := ⟨_, rfl⟩
  obtain ⟨PB, hB⟩ : ∃ P, parseV exB = P := ⟨_, rfl⟩
  rw [hA] at a1 a2 a3 a4 ⊢
  rw [hB] at b1 b2 ⊢
  refine x.exit rfl ?_ ?_
  · simp only [AllP, Int.toNat_zero, a2, a3]
    exact ⟨fun _ => by omega, fun _ => by omega, fun _ => by omega⟩
  refine ⟨.inr rfl, (show VEq0 (vb _) (vb true) from ?_), trivial, rfl⟩
  rw [Int.toNat_zero, a1, a2, a3, a4, b1, b2]
  rfl
end Go.Proofs.YtikkppdihepmdaaDoor

/- What is parsed hangs on the tokens' kinds and texts alone: other places, tokens ahead of it, instructions ahead of it. -/
namespace Go.Proofs.YtikkppdihepmdaaDoor
open Go.Sx
set_option linter.unusedVariables false
set_option linter.unusedSimpArgs false
set_option maxRecDepth 100000

/-- How many instructions there are. -/
theorem code_count {s : ByteArray} {l : List Tok} : ∀ {f n c : Nat} {xs : List Ins} {n' c' : Nat} {ys : List Ins}, codeF s l f n c xs = .ok (n', (c', ys)) → c' + xs.length = c + ys.length ∧ c ≤ c'
  | 0, n, c, xs, n', c', ys, h => by simp [codeF] at h
  | f + 1, n, c, xs, n', c', ys, h => by
    rw [codeF] at h
    split at h
    · simp only [Except.ok.injEq, Prod.mk.injEq] at h
      obtain ⟨rfl, rfl, rfl⟩ := h
      exact ⟨rfl, Nat.le_refl _⟩
    · rcases hV : instrV s l n c with e | ⟨n1, x⟩
      · rw [hV] at h; cases h
      · rw [hV] at h
        obtain ⟨h1, h2⟩ := code_count (show codeF s l f n1 (c + 1) (xs ++ [x]) = _ from h)
        rw [List.length_append] at h1
        simp only [List.length_cons, List.length_nil] at h1
        omega
theorem code_mono {s : ByteArray} {l : List Tok} {f n c : Nat} {xs : List Ins} {n' c' : Nat} {ys : List Ins} (h : codeF s l f n c xs = .ok (n', (c', ys))) : c ≤ c' := (code_count h).2
/-- But for the places. -/
def erI (x : Ins) : Ins := { x with at_ := 0 }
def erB (b : Blk) : Blk := ⟨b.name, b.code.map erI, 0⟩
def erF (f : Fun) : Fun := ⟨f.name, f.params, f.blocks.map erB, 0⟩
def erA (a : Arr) : Arr := { a with at_ := 0 }
def erP (p : Prg) : Prg := ⟨p.arrays.map erA, p.funcs.map erF⟩

/-- The tokens of (s, l) stand in (s', l') behind d others, and they are the last ones. -/
structure Sim (s : ByteArray) (l : List Tok) (s' : ByteArray) (l' : List Tok) (d : Nat) : Prop where
  len : l'.length = d + l.length
  kind : ∀ n k, isV l' (d + n) k = isV l n k
  text : ∀ n, txV s' l' (d + n) = txV s l n
def SimR {α : Type} (d : Nat) (E : α → α → Prop) (r r' : Except (Int × Int) (Nat × α)) : Prop :=
  match r with
  | .ok (n, x) => ∃ x', r' = .ok (d + n, x') ∧ E x x'
  | .error (a, e) => ∃ a', r' = .error (a', e)
/-- With c0 instructions ahead of it. -/
def SimC {α : Type} (d c0 : Nat) (E : α → α → Prop) (r r' : Except (Int × Int) (Nat × (Nat × α))) : Prop :=
  match r with
  | .ok (n, (c, x)) => if c0 + c ≤ 4096 then ∃ x', r' = .ok (d + n, (c0 + c, x')) ∧ E x x' else ∃ a', r' = .error (a', 3)
  | .error (a, e) => c0 = 0 → ∃ a', r' = .error (a', e)
section
variable {s : ByteArray} {l : List Tok} {s' : ByteArray} {l' : List Tok} {d c0 : Nat} (S : Sim s l s' l' d) {α β : Type} {E : α → α → Prop} {E2 : β → β → Prop}
omit S in
theorem SimR.bind {r r' : Except (Int × Int) (Nat × α)} {k k' : Nat → α → Except (Int × Int) (Nat × β)} (h1 : SimR d E r r') (h2 : ∀ n x x', E x x' → SimR d E2 (k n x) (k' (d + n) x')) : SimR d E2 (bnd r k) (bnd r' k') := by
  rcases r with ⟨a, e⟩ | ⟨n, x⟩
  · obtain ⟨a', rfl⟩ := h1
    exact ⟨a', rfl⟩
  · obtain ⟨x', rfl, hx⟩ := h1
    exact h2 n x x' hx
omit S in
theorem SimR.bindC {r r' : Except (Int × Int) (Nat × α)} {k k' : Nat → α → Except (Int × Int) (Nat × (Nat × β))} (h1 : SimR d E r r') (h2 : ∀ n x x', E x x' → SimC d c0 E2 (k n x) (k' (d + n) x')) : SimC d c0 E2 (bnd r k) (bnd r' k') := by
  rcases r with ⟨a, e⟩ | ⟨n, x⟩
  · obtain ⟨a', rfl⟩ := h1
    exact fun _ => ⟨a', rfl⟩
  · obtain ⟨x', rfl, hx⟩ := h1
    exact h2 n x x' hx
omit S in
theorem SimC.bind {r r' : Except (Int × Int) (Nat × (Nat × α))} {k k' : Nat → Nat × α → Except (Int × Int) (Nat × (Nat × β))} (h1 : SimC d c0 E r r') (hb : ∀ n c x, r = .ok (n, (c, x)) → c ≤ 4096) (hm : ∀ n c x n2 c2 y, r = .ok (n, (c, x)) → k n (c, x) = .ok (n2, (c2, y)) → c ≤ c2)
    (h2 : ∀ n c x x', r = .ok (n, (c, x)) → c0 + c ≤ 4096 → E x x' → SimC d c0 E2 (k n (c, x)) (k' (d + n) (c0 + c, x'))) : SimC d c0 E2 (bnd r k) (bnd r' k') := by
  rcases r with ⟨a, e⟩ | ⟨n, c, x⟩
  · exact fun h0 => by obtain ⟨a', rfl⟩ := h1 h0; exact ⟨a', rfl⟩
  · unfold SimC at h1
    dsimp only at h1
    split at h1
    · rename_i hc
      obtain ⟨x', rfl, hx⟩ := h1
      exact h2 n c x x' rfl hc hx
    · rename_i hc
      obtain ⟨a', rfl⟩ := h1
      show SimC d c0 E2 (k n (c, x)) (.error (a', 3))
      rcases hk : k n (c, x) with ⟨a2, e2⟩ | ⟨n2, c2, y⟩
      · exact fun h0 => by have := hb n c x rfl; omega
      · have := hm n c x n2 c2 y rfl hk
        unfold SimC
        dsimp only
        rw [if_neg (by omega)]
        exact ⟨a', rfl⟩
include S
theorem sim_nm (n : Nat) : SimR d (fun x x' => x = x') (nmV s l n) (nmV s' l' (d + n)) := by
  unfold nmV
  rw [S.kind]
  split
  · exact ⟨_, rfl, (S.text n).symm⟩
  · exact ⟨_, rfl⟩
theorem sim_need (n : Nat) (b : UInt8) : SimR d (fun _ _ => True) (needV s l n b) (needV s' l' (d + n) b) := by
  unfold needV
  rw [S.text]
  split
  · exact ⟨_, rfl, trivial⟩
  · exact ⟨_, rfl⟩
theorem sim_close {b : UInt8} {r r' : Except (Int × Int) (Nat × α)} (h : SimR d E r r') : SimR d E (closeV s l b r) (closeV s' l' b r') := by
  rw [closeV_bnd, closeV_bnd]
  exact h.bind fun n x x' hx => (sim_need S n b).bind fun n _ _ _ => ⟨_, rfl, hx⟩
theorem sim_namesF : ∀ (f n k : Nat) (o : List ByteArray), SimR d (fun x x' => x = x') (namesF s l f n k o) (namesF s' l' f (d + n) k o)
  | 0, n, k, o => ⟨_, rfl⟩
  | f + 1, n, k, o => by
    rw [namesF, namesF, S.kind, show d + n + 1 = d + (n + 1) from rfl, S.text, S.text]
    split
    · split
      · exact ⟨_, rfl⟩
      · split
        · exact sim_namesF f (n + 2) (k + 1) _
        · exact ⟨_, rfl, rfl⟩
    · exact ⟨_, rfl⟩
omit S in
theorem namesF_fuel : ∀ (f g n k : Nat) (o : List ByteArray), l.length + 1 ≤ f + n → l.length + 1 ≤ g + n → n ≤ l.length → namesF s l f n k o = namesF s l g n k o
  | 0, _, n, k, o, h, _, hn => by omega
  | _, 0, n, k, o, _, h, hn => by omega
  | f + 1, g + 1, n, k, o, h1, h2, hn => by
    rw [namesF, namesF]
    split
    · rename_i hi
      have := isV_lt hi
      split
      · rfl
      · split
        · rename_i hc
          have := tx_lt hc
          exact namesF_fuel f g _ _ _ (by omega) (by omega) (by omega)
        · rfl
    · rfl
omit S in
theorem pairsF_fuel : ∀ (f g n k : Nat) (x : Ins), l.length + 1 ≤ f + n → l.length + 1 ≤ g + n → n ≤ l.length → pairsF s l f n k x = pairsF s l g n k x
  | 0, _, n, k, x, h, _, hn => by omega
  | _, 0, n, k, x, _, h, hn => by omega
  | f + 1, g + 1, n, k, x, h1, h2, hn => by
    rw [pairsF, pairsF]
    split
    · rfl
    · rcases hV : pairV s l n x with e | ⟨n1, y⟩
      · rfl
      · have h3 := pairV_ok hV
        simp only [bnd]
        split
        · rename_i hc
          have := tx_lt hc
          exact pairsF_fuel f g _ _ _ (by omega) (by omega) (by omega)
        · rfl
theorem sim_names (n : Nat) : SimR d (fun x x' => x = x') (namesV s l n) (namesV s' l' (d + n)) := by
  unfold namesV
  rw [S.text, show d + n + 1 = d + (n + 1) from rfl, S.text]
  split
  · rename_i h1
    have := tx_lt h1
    split
    · exact ⟨_, rfl, rfl⟩
    · have hlen := S.len
      rw [namesF_fuel (s := s') (l := l') (l'.length + 2) (l.length + 2) (d + (n + 1)) 0 [] (by omega) (by omega) (by omega)]
      exact sim_close S (sim_namesF S _ _ _ _)
  · exact ⟨_, rfl⟩
def EI (x x' : Ins) : Prop := ∃ b, x' = { x with at_ := b }
omit S in
theorem EI.er {x x' : Ins} (h : EI x x') : erI x = erI x' := by obtain ⟨b, rfl⟩ := h; rfl
theorem sim_pairs : ∀ (f n k : Nat) (x x' : Ins), EI x x' → SimR d EI (pairsF s l f n k x) (pairsF s' l' f (d + n) k x')
  | 0, n, k, x, x', h => ⟨_, rfl⟩
  | f + 1, n, k, x, x', h => by
    rw [pairsF, pairsF, S.kind]
    split
    · exact ⟨_, rfl⟩
    · obtain ⟨b, rfl⟩ := h
      refine SimR.bind (E := EI) ((sim_nm S n).bind fun n f f' hf => (sim_need S n 58).bind fun n _ _ _ => (sim_nm S n).bind fun n a a' ha => ⟨_, rfl, b, by rw [← hf, ← ha]⟩) fun n y y' hy => ?_
      rw [S.text]
      split
      · exact sim_pairs f (n + 1) (k + 1) y y' hy
      · exact ⟨_, rfl, hy⟩
theorem sim_arg (n : Nat) {x x' : Ins} (h : EI x x') : SimR d EI (argV s l n x) (argV s' l' (d + n) x') := by
  obtain ⟨b, rfl⟩ := h
  exact (sim_nm S n).bind fun n a a' ha => ⟨_, rfl, b, by rw [ha]⟩
theorem sim_one (n : Nat) {x x' : Ins} (h : EI x x') : SimR d EI (oneV7 s l n x) (oneV7 s' l' (d + n) x') := by
  obtain ⟨b, rfl⟩ := h
  exact (sim_nm S n).bind fun n a a' ha => ⟨_, rfl, b, by rw [ha]⟩
theorem sim_ref (n : Nat) {x x' : Ins} (h : EI x x') : SimR d EI (refV s l n x) (refV s' l' (d + n) x') := by
  obtain ⟨b, rfl⟩ := h
  exact (sim_nm S n).bind fun n a a' ha => ⟨_, rfl, b, by rw [ha]⟩
omit S in
theorem EI.kind {x x' : Ins} (h : EI x x') (k : Int) : EI { x with kind := k } { x' with kind := k } := by obtain ⟨b, rfl⟩ := h; exact ⟨b, rfl⟩
omit S in
theorem EI.oper {x x' : Ins} (h : EI x x') (k o : Int) : EI { x with kind := k, op := o } { x' with kind := k, op := o } := by obtain ⟨b, rfl⟩ := h; exact ⟨b, rfl⟩
omit S in
theorem EI.refs {x x' : Ins} (h : EI x x') {a a' : ByteArray} (e : a = a') : EI { x with ref := a } { x' with ref := a' } := by obtain ⟨b, rfl⟩ := h; exact ⟨b, by rw [e]⟩
omit S in
theorem EI.alts {x x' : Ins} (h : EI x x') {a a' : ByteArray} (e : a = a') : EI { x with alt := a } { x' with alt := a' } := by obtain ⟨b, rfl⟩ := h; exact ⟨b, by rw [e]⟩
omit S in
theorem EI.argss {x x' : Ins} (h : EI x x') {a a' : List ByteArray} (e : a = a') : EI { x with args := a } { x' with args := a' } := by obtain ⟨b, rfl⟩ := h; exact ⟨b, by rw [e]⟩
omit S in
theorem EI.dsts {x x' : Ins} (h : EI x x') {a a' : ByteArray} (e : a = a') : EI { x with dst := a } { x' with dst := a' } := by obtain ⟨b, rfl⟩ := h; exact ⟨b, by rw [e]⟩
theorem sim_phi (n : Nat) {x x' : Ins} (h : EI x x') : SimR d EI (phiV s l n x) (phiV s' l' (d + n) x') := by
  unfold phiV
  by_cases h1 : (txV s l n).data.toList = [91]
  · have := tx_lt h1
    have hlen := S.len
    rw [needV, needV, S.text, if_pos h1, if_pos h1]
    simp only [bnd]
    show SimR d EI _ (closeV s' l' 93 (pairsF s' l' (l'.length + 1) (d + (n + 1)) 0 { x' with kind := 3 }))
    rw [pairsF_fuel (s := s') (l := l') (l'.length + 1) (l.length + 1) (d + (n + 1)) 0 _ (by omega) (by omega) (by omega)]
    exact sim_close S (sim_pairs S _ _ _ _ _ (h.kind 3))
  · rw [needV, needV, S.text, if_neg h1, if_neg h1]
    exact ⟨_, rfl⟩
theorem sim_word (n : Nat) (w : List UInt8) {x x' : Ins} (h : EI x x') : SimR d EI (wordV s l n x w) (wordV s' l' (d + n) x' w) := by
  unfold wordV
  split
  · unfold constV
    rw [show d + n + 1 = d + (n + 1) from rfl, S.kind, S.text]
    split
    · obtain ⟨b, rfl⟩ := h
      exact ⟨_, rfl, b, rfl⟩
    · exact ⟨_, rfl⟩
  split
  · exact (sim_ref S (n + 1) (h.kind 4)).bind fun n y y' hy => sim_one S n hy
  split
  · exact (sim_ref S (n + 1) (h.kind 5)).bind fun n y y' hy => sim_one S n hy
  split
  · exact sim_ref S (n + 1) (h.kind 8)
  split
  · exact (sim_ref S (n + 1) (h.kind 7)).bind fun n y y' hy => (sim_names S n).bind fun n o o' ho => ⟨_, rfl, hy.argss ho⟩
  split
  · exact (sim_one S (n + 1) (h.kind 10)).bind fun n y y' hy => sim_ref S n hy
  split
  · exact sim_phi S (n + 1) h
  · exact ⟨_, rfl⟩
theorem sim_value (n : Nat) {x x' : Ins} (h : EI x x') : SimR d EI (valueV s l n x) (valueV s' l' (d + n) x') := by
  unfold valueV
  rw [S.text]
  split
  · exact (sim_arg S (n + 1) (h.oper 2 _)).bind fun n y y' hy => sim_arg S n hy
  · exact sim_word S n _ h
theorem sim_act {w : List UInt8} {f : Nat → Ins → Except (Int × Int) (Nat × Ins)} (hf : actV s l w = some f) : ∃ f', actV s' l' w = some f' ∧ ∀ n x x', EI x x' → SimR d EI (f n x) (f' (d + n) x') := by
  unfold actV at hf ⊢
  split at hf
  · rename_i e
    obtain rfl := Option.some.inj hf
    refine ⟨_, if_pos e, fun n x x' h => ?_⟩
    exact (sim_nm S n).bind fun n a a' ha => (sim_arg S n ((h.kind 6).refs ha)).bind fun n y y' hy => (sim_arg S n hy).bind fun n y y' hy => ⟨_, rfl, hy⟩
  rename_i e1
  rw [if_neg e1]
  split at hf
  · rename_i e
    obtain rfl := Option.some.inj hf
    refine ⟨_, if_pos e, fun n x x' h => ?_⟩
    exact (sim_nm S n).bind fun n a a' ha => (sim_arg S n ((h.kind 9).refs ha)).bind fun n y y' hy => ⟨_, rfl, hy⟩
  rename_i e2
  rw [if_neg e2]
  split at hf
  · rename_i e
    obtain rfl := Option.some.inj hf
    refine ⟨_, if_pos e, fun n x x' h => ?_⟩
    exact (sim_nm S n).bind fun n a a' ha => ⟨_, rfl, (h.kind 11).refs ha⟩
  rename_i e3
  rw [if_neg e3]
  split at hf
  · rename_i e
    obtain rfl := Option.some.inj hf
    refine ⟨_, if_pos e, fun n x x' h => ?_⟩
    exact (sim_arg S n (h.kind 12)).bind fun n y y' hy => (sim_nm S n).bind fun n a a' ha => (sim_nm S n).bind fun n b b' hb => ⟨_, rfl, (hy.refs ha).alts hb⟩
  rename_i e4
  rw [if_neg e4]
  split at hf
  · rename_i e
    obtain rfl := Option.some.inj hf
    refine ⟨_, if_pos e, fun n x x' h => ?_⟩
    exact (sim_arg S n (h.kind 13)).bind fun n y y' hy => ⟨_, rfl, hy⟩
  · cases hf
omit S in
theorem act_iff {w : List UInt8} : (actV s l w).isNone = (actV s' l' w).isNone := by
  unfold actV
  split
  · rfl
  split
  · rfl
  split
  · rfl
  split
  · rfl
  split
  · rfl
  · rfl
/-- An instruction counts for one. -/
def tagI (r : Except (Int × Int) (Nat × Ins)) (c : Nat) : Except (Int × Int) (Nat × (Nat × Ins)) := bnd r fun n x => .ok (n, (c + 1, x))
theorem sim_instr (n c : Nat) : SimC d c0 EI (tagI (instrV s l n c) c) (tagI (instrV s' l' (d + n) (c0 + c)) (c0 + c)) := by
  unfold tagI instrV
  rw [S.kind, show d + n + 1 = d + (n + 1) from rfl, S.text, S.text, show (actV s' l' (txV s l n).data.toList).isNone = (actV s l (txV s l n).data.toList).isNone from act_iff.symm]
  by_cases h1 : isV l n 1 = false ∧ (actV s l (txV s l n).data.toList).isNone = true
  · rw [if_pos h1, if_pos h1]; exact fun _ => ⟨_, rfl⟩
  rw [if_neg h1, if_neg h1]
  by_cases h2 : isV l n 1 = true ∧ ¬ (txV s l (n + 1)).data.toList = [61]
  · rw [if_pos h2, if_pos h2]; exact fun _ => ⟨_, rfl⟩
  rw [if_neg h2, if_neg h2]
  by_cases h3 : 4096 ≤ c
  · rw [if_pos h3, if_pos (by omega)]; exact fun _ => ⟨_, rfl⟩
  rw [if_neg h3]
  have hz : EI (ins0 (atV s l n)) (ins0 (atV s' l' (d + n))) := ⟨_, rfl⟩
  have key : ∀ (r r' : Except (Int × Int) (Nat × Ins)), SimR d EI r r' → SimC d c0 EI (bnd r fun n x => .ok (n, (c + 1, x))) (bnd (if 4096 ≤ c0 + c then .error (atV s' l' (d + n), 3) else r') fun n x => .ok (n, (c0 + c + 1, x))) := fun r r' hr => by
    rcases r with ⟨a, e⟩ | ⟨n1, x⟩
    · obtain ⟨a', rfl⟩ := hr
      intro h0
      rw [if_neg (by omega)]
      exact ⟨a', rfl⟩
    · obtain ⟨x', rfl, hx⟩ := hr
      unfold SimC
      simp only [bnd]
      by_cases h4 : 4096 ≤ c0 + c
      · rw [if_pos h4, if_neg (by omega)]
        exact ⟨_, rfl⟩
      · rw [if_neg h4, if_pos (by omega)]
        exact ⟨x', rfl, hx⟩
  rcases ha : actV s l (txV s l n).data.toList with _ | f
  · have ha' : actV s' l' (txV s l n).data.toList = none := by
      have := act_iff (s := s) (l := l) (s' := s') (l' := l') (w := (txV s l n).data.toList)
      rw [ha] at this
      simpa using this.symm
    rw [ha']
    exact key _ _ ((sim_nm S n).bind fun n1 a a' hd => (sim_need S n1 61).bind fun n2 _ _ _ => sim_value S n2 (hz.dsts hd))
  · obtain ⟨f', hf', hs⟩ := sim_act S ha
    rw [hf']
    exact key _ _ (hs (n + 1) _ _ hz)
theorem sim_beg (n : Nat) : begB s' l' (d + n) = begB s l n := by
  unfold begB
  rw [S.kind, show d + n + 1 = d + (n + 1) from rfl, S.text]
def EC (xs xs' : List Ins) : Prop := xs.map erI = xs'.map erI
omit S in
theorem tag_ok {r : Except (Int × Int) (Nat × Ins)} {c n c' : Nat} {x : Ins} (h : tagI r c = .ok (n, (c', x))) : r = .ok (n, x) ∧ c' = c + 1 := by
  rcases r with e | ⟨n1, y⟩
  · cases h
  · simp only [tagI, bnd, Except.ok.injEq, Prod.mk.injEq] at h
    obtain ⟨rfl, rfl, rfl⟩ := h
    exact ⟨rfl, rfl⟩
omit S in
theorem codeF_tag (f n c : Nat) (xs : List Ins) : codeF s l (f + 1) n c xs = if (txV s l n).data.toList = [125] ∨ begB s l n = true then .ok (n, (c, xs)) else bnd (tagI (instrV s l n c) c) fun n q => codeF s l f n q.1 (xs ++ [q.2]) := by
  rw [codeF]
  split
  · rfl
  · unfold tagI
    rcases instrV s l n c with e | ⟨n1, x⟩ <;> rfl
theorem sim_code : ∀ (f n c : Nat) (xs xs' : List Ins), n ≤ l.length → c ≤ 4096 → c0 + c ≤ 4096 → EC xs xs' → SimC d c0 EC (codeF s l f n c xs) (codeF s' l' f (d + n) (c0 + c) xs')
  | 0, n, c, xs, xs', _, _, _, h => fun _ => ⟨_, rfl⟩
  | f + 1, n, c, xs, xs', hn, hc, hcc, h => by
    rw [codeF_tag, codeF_tag, S.text, sim_beg S]
    split
    · unfold SimC
      dsimp only
      rw [if_pos hcc]
      exact ⟨_, rfl, h⟩
    · rcases hV : tagI (instrV s l n c) c with ⟨a, e⟩ | ⟨n1, c1, y⟩
      · have := sim_instr (c0 := c0) S n c
        rw [hV] at this
        exact fun h0 => by obtain ⟨a', e'⟩ := this h0; rw [e']; exact ⟨a', rfl⟩
      · obtain ⟨hI, rfl⟩ := tag_ok hV
        have h1 := instr_up _ _ hI
        have h2 := instr_c hI
        have hs := sim_instr (c0 := c0) S n c
        rw [hV] at hs
        unfold SimC at hs
        dsimp only at hs
        show SimC d c0 EC (codeF s l f n1 (c + 1) (xs ++ [y])) _
        split at hs
        · obtain ⟨y', e', hy⟩ := hs
          rw [e']
          exact sim_code f n1 (c + 1) (xs ++ [y]) (xs' ++ [y']) h1.2 (by omega) (by omega) (by unfold EC at h ⊢; rw [List.map_append, List.map_append, h, List.map_cons, List.map_cons, hy.er])
        · obtain ⟨a', e'⟩ := hs
          rw [e']
          show SimC d c0 EC _ (.error (a', 3))
          rcases hK : codeF s l f n1 (c + 1) (xs ++ [y]) with ⟨a2, e2⟩ | ⟨n2, c2, ys⟩
          · exact fun h0 => by omega
          · have h3 := code_up h1.2 (by omega) hK
            have h4 : c + 1 ≤ c2 := code_mono hK
            unfold SimC
            dsimp only
            rw [if_neg (by omega)]
            exact ⟨a', rfl⟩
/-! ### blocks, functions, arrays, programs -/
omit S in
theorem blockV_bnd {n c : Nat} : blockV s l n c = bnd (nmV s l n) fun n1 nm => bnd (needV s l n1 58) fun n2 _ => bnd (codeF s l 4098 n2 c []) fun n3 r => .ok (n3, (r.1, ⟨nm, r.2, atV s l n⟩)) := rfl
def EB (b b' : Blk) : Prop := erB b = erB b'
omit S in
theorem simR_le {p : Nat → α → Prop} {r r' : Except (Int × Int) (Nat × α)} {k k' : Nat → α → Except (Int × Int) (Nat × (Nat × β))} (h1 : SimR d E r r') (hp : ∀ n x, r = .ok (n, x) → p n x) (h2 : ∀ n x x', p n x → E x x' → SimC d c0 E2 (k n x) (k' (d + n) x')) : SimC d c0 E2 (bnd r k) (bnd r' k') := by
  rcases r with ⟨a, e⟩ | ⟨n, x⟩
  · obtain ⟨a', rfl⟩ := h1
    exact fun _ => ⟨a', rfl⟩
  · obtain ⟨x', rfl, hx⟩ := h1
    exact h2 n x x' (hp n x rfl) hx
theorem sim_block (n c : Nat) (hc : c ≤ 4096) (hcc : c0 + c ≤ 4096) : SimC d c0 EB (blockV s l n c) (blockV s' l' (d + n) (c0 + c)) := by
  rw [blockV_bnd, blockV_bnd]
  refine SimR.bindC (sim_nm S n) fun n1 a a' ha => simR_le (p := fun n _ => n ≤ l.length) (sim_need S n1 58) (fun n2 x h => (need_up _ _ h).2) fun n2 _ _ hn2 _ => ?_
  refine SimC.bind (E := EC) (sim_code S 4098 n2 c [] [] hn2 hc hcc rfl) (fun n3 c3 x h => (code_up hn2 hc h).2.2) (fun n3 c3 x n4 c4 y _ h => by simp only [Except.ok.injEq, Prod.mk.injEq] at h; omega) fun n3 c3 x x' _ h3 hx => ?_
  unfold SimC
  dsimp only
  rw [if_pos h3]
  exact ⟨_, rfl, by unfold EB erB; rw [ha, show x.map erI = x'.map erI from hx]⟩
def EBs (bs bs' : List Blk) : Prop := bs.map erB = bs'.map erB
omit S in
theorem EBs.add {bs bs' : List Blk} {b b' : Blk} (h : EBs bs bs') (hb : EB b b') : EBs (bs ++ [b]) (bs' ++ [b']) := by
  unfold EBs at h ⊢
  rw [List.map_append, List.map_append, h, List.map_cons, List.map_cons, show erB b = erB b' from hb]
omit S in
theorem block_mono {n c n' c' : Nat} {b : Blk} (h : blockV s l n c = .ok (n', (c', b))) : c' = c + b.code.length := by
  rw [blockV_bnd] at h
  rcases h1 : nmV s l n with e | ⟨n1, nm⟩
  · rw [h1] at h; cases h
  rw [h1] at h
  simp only [bnd] at h
  rcases h2 : needV s l n1 58 with e | ⟨n2, u⟩
  · rw [h2] at h; cases h
  rw [h2] at h
  simp only at h
  rcases h3 : codeF s l 4098 n2 c [] with e | ⟨n3, c3, ys⟩
  · rw [h3] at h; cases h
  rw [h3] at h
  simp only [Except.ok.injEq, Prod.mk.injEq] at h
  obtain ⟨_, rfl, rfl⟩ := h
  have := (code_count h3).1
  simpa using this
def codeN (bs : List Blk) : Nat := (bs.map fun b => b.code.length).sum
omit S in
theorem blocks_count : ∀ {f n c : Nat} {bs : List Blk} {n' c' : Nat} {ys : List Blk}, blocksF s l f n c bs = .ok (n', (c', ys)) → c' + codeN bs = c + codeN ys ∧ c ≤ c'
  | 0, n, c, bs, n', c', ys, h => by simp [blocksF] at h
  | f + 1, n, c, bs, n', c', ys, h => by
    rw [blocksF] at h
    split at h
    · split at h
      · cases h
      · rcases hV : blockV s l n c with e | ⟨n1, c1, b⟩
        · rw [hV] at h; cases h
        · rw [hV] at h
          have hb := block_mono hV
          obtain ⟨h1, h2⟩ := blocks_count (show blocksF s l f n1 c1 (bs ++ [b]) = _ from h)
          unfold codeN at h1 ⊢
          rw [List.map_append, List.sum_append] at h1
          simp only [List.map_cons, List.map_nil, List.sum_cons, List.sum_nil] at h1
          omega
    · simp only [Except.ok.injEq, Prod.mk.injEq] at h
      obtain ⟨rfl, rfl, rfl⟩ := h
      exact ⟨rfl, Nat.le_refl _⟩
theorem sim_blocks : ∀ (f n c : Nat) (bs bs' : List Blk), n ≤ l.length → c ≤ 4096 → c0 + c ≤ 4096 → EBs bs bs' → SimC d c0 EBs (blocksF s l f n c bs) (blocksF s' l' f (d + n) (c0 + c) bs')
  | 0, n, c, bs, bs', _, _, _, h => fun _ => ⟨_, rfl⟩
  | f + 1, n, c, bs, bs', hn, hc, hcc, h => by
    have hlen : bs.length = bs'.length := by have := congrArg List.length h; simpa using this
    rw [blocksF, blocksF, sim_beg S, ← hlen]
    split
    · split
      · exact fun _ => ⟨_, rfl⟩
      · refine SimC.bind (E := EB) (sim_block S n c hc hcc) (fun n3 c3 x h => (block_up hc h).2.2) (fun n3 c3 x n4 c4 y _ hk => (blocks_count hk).2) fun n3 c3 x x' h3 hcc3 hx => ?_
        exact sim_blocks f n3 c3 _ _ (block_up hc h3).2.1 (block_up hc h3).2.2 hcc3 (h.add hx)
    · unfold SimC
      dsimp only
      rw [if_pos hcc]
      exact ⟨_, rfl, h⟩
def EF (f f' : Fun) : Prop := erF f = erF f'
omit S in
theorem funcV_bnd {n c : Nat} : funcV s l n c = bnd (nmV s l (n + 1)) fun n1 nm => bnd (namesV s l n1) fun n2 ps => bnd (needV s l n2 123) fun n3 _ => bnd (blockV s l n3 c) fun n4 r =>
    bnd (blocksF s l 65 n4 r.1 [r.2]) fun n5 q => bnd (needV s l n5 125) fun n6 _ => .ok (n6, (q.1, ⟨nm, ps, q.2, atV s l n⟩)) := rfl
def funN (f : Fun) : Nat := codeN f.blocks
omit S in
theorem func_tail {n4 c4 : Nat} {b : Blk} {nm : ByteArray} {ps : List ByteArray} {a : Int} {n' c' : Nat} {f : Fun}
    (h : (bnd (blocksF s l 65 n4 c4 [b]) fun n5 q => bnd (needV s l n5 125) fun n6 _ => .ok (n6, (q.1, (⟨nm, ps, q.2, a⟩ : Fun)))) = .ok (n', (c', f))) : c' + b.code.length = c4 + funN f ∧ c4 ≤ c' := by
  rcases h5 : blocksF s l 65 n4 c4 [b] with e | ⟨n5, c5, q⟩
  · rw [h5] at h; cases h
  rw [h5] at h
  simp only [bnd] at h
  rcases h6 : needV s l n5 125 with e | ⟨n6, u⟩
  · rw [h6] at h; cases h
  rw [h6] at h
  simp only [Except.ok.injEq, Prod.mk.injEq] at h
  obtain ⟨_, rfl, rfl⟩ := h
  have := blocks_count h5
  unfold funN
  unfold codeN at this ⊢
  simp only [List.map_cons, List.map_nil, List.sum_cons, List.sum_nil] at this
  omega
omit S in
theorem func_count {n c n' c' : Nat} {f : Fun} (h : funcV s l n c = .ok (n', (c', f))) : c' = c + funN f := by
  rw [funcV_bnd] at h
  rcases h1 : nmV s l (n + 1) with e | ⟨n1, nm⟩
  · rw [h1] at h; cases h
  rw [h1] at h
  simp only [bnd] at h
  rcases h2 : namesV s l n1 with e | ⟨n2, ps⟩
  · rw [h2] at h; cases h
  rw [h2] at h
  simp only at h
  rcases h3 : needV s l n2 123 with e | ⟨n3, u⟩
  · rw [h3] at h; cases h
  rw [h3] at h
  simp only at h
  rcases h4 : blockV s l n3 c with e | ⟨n4, c4, b⟩
  · rw [h4] at h; cases h
  rw [h4] at h
  have h5 := func_tail (show (bnd (blocksF s l 65 n4 c4 [b]) fun n5 q => bnd (needV s l n5 125) fun n6 _ => .ok (n6, (q.1, (⟨nm, ps, q.2, atV s l n⟩ : Fun)))) = _ from h)
  have := block_mono h4
  omega
theorem sim_func (n c : Nat) (hc : c ≤ 4096) (hcc : c0 + c ≤ 4096) : SimC d c0 EF (funcV s l n c) (funcV s' l' (d + n) (c0 + c)) := by
  rw [funcV_bnd, funcV_bnd]
  refine SimR.bindC (sim_nm S (n + 1)) fun n1 nm nm' hnm => SimR.bindC (sim_names S n1) fun n2 ps ps' hps => SimR.bindC (sim_need S n2 123) fun n3 _ _ _ => ?_
  refine SimC.bind (E := EB) (sim_block S n3 c hc hcc) (fun n4 c4 x h => (block_up hc h).2.2) (fun n4 c4 x n5 c5 y _ h => (func_tail h).2) fun n4 c4 b b' h4 hcc4 hb => ?_
  obtain ⟨u1, u2, u3⟩ := block_up hc h4
  refine SimC.bind (E := EBs) (sim_blocks S 65 n4 c4 [b] [b'] u2 u3 hcc4 (by unfold EBs; rw [List.map_cons, List.map_cons, show erB b = erB b' from hb])) (fun n5 c5 x h => (blocks_up u2 u3 h).2.2) (fun n5 c5 x n6 c6 y _ h => ?_) fun n5 c5 q q' h5 hcc5 hq => ?_
  · rcases h6 : needV s l n5 125 with e | ⟨n7, u⟩
    · rw [h6] at h; cases h
    · rw [h6] at h
      simp only [bnd, Except.ok.injEq, Prod.mk.injEq] at h
      omega
  · refine SimR.bindC (sim_need S n5 125) fun n6 _ _ _ => ?_
    unfold SimC
    dsimp only
    rw [if_pos hcc5]
    exact ⟨_, rfl, by unfold EF erF; rw [hnm, hps, show q.map erB = q'.map erB from hq]⟩
def EA (a a' : Arr) : Prop := erA a = erA a'
theorem sim_arr (n : Nat) : SimR d EA (arrV s l n) (arrV s' l' (d + n)) := by
  unfold arrV
  refine (sim_nm S (n + 1)).bind fun n1 nm nm' hnm => ?_
  rw [S.kind, S.text]
  split
  · split
    · exact ⟨_, rfl⟩
    · refine (sim_nm S (n1 + 1)).bind fun n2 lv lv' hlv => ⟨_, rfl, ?_⟩
      unfold EA erA
      rw [hnm, hlv]
  · exact ⟨_, rfl⟩
end
end Go.Proofs.YtikkppdihepmdaaDoor

/- Programs whose tokens are alike. -/
namespace Go.Proofs.YtikkppdihepmdaaDoor
open Go.Sx
set_option linter.unusedVariables false
set_option linter.unusedSimpArgs false
set_option maxRecDepth 100000

def progN (fs : List Fun) : Nat := (fs.map funN).sum
theorem progN_add (fs : List Fun) (f : Fun) : progN (fs ++ [f]) = progN fs + funN f := by
  unfold progN
  rw [List.map_append, List.sum_append]
  simp
/-- Of a program that is read: it grows, and stays within the bounds. -/
theorem prog_grow {s : ByteArray} {l : List Tok} : ∀ {f n c : Nat} {p q : Prg} {n' : Nat}, c ≤ 4096 → c = progN p.funcs → p.arrays.length ≤ 16 → p.funcs.length ≤ 64 → progF s l f n c p = .ok (n', q) →
    progN p.funcs ≤ progN q.funcs ∧ p.arrays.length ≤ q.arrays.length ∧ p.funcs.length ≤ q.funcs.length ∧ progN q.funcs ≤ 4096 ∧ q.arrays.length ≤ 16 ∧ q.funcs.length ≤ 64 ∧ l.length ≤ n'
  | 0, n, c, p, q, n', hc, hcp, h1, h2, h => by simp [progF] at h
  | f + 1, n, c, p, q, n', hc, hcp, h1, h2, h => by
    rw [progF] at h
    split at h
    · split at h
      · split at h
        · cases h
        · rename_i h6
          rcases hV : arrV s l n with e | ⟨n1, x⟩
          · rw [hV] at h; cases h
          · rw [hV] at h
            have := prog_grow (p := ⟨p.arrays ++ [x], p.funcs⟩) hc hcp (by rw [List.length_append]; simp only [List.length_cons, List.length_nil]; omega) h2 (show progF s l f n1 c _ = _ from h)
            simp only [List.length_append, List.length_cons, List.length_nil] at this
            omega
      · split at h
        · split at h
          · cases h
          · rename_i h6
            rcases hV : funcV s l n c with e | ⟨n1, c1, x⟩
            · rw [hV] at h; cases h
            · rw [hV] at h
              have hf := func_count hV
              have hu := func_up hc hV
              have := prog_grow (p := ⟨p.arrays, p.funcs ++ [x]⟩) hu.2.2 (by rw [progN_add]; omega) h1 (by rw [List.length_append]; simp only [List.length_cons, List.length_nil]; omega) (show progF s l f n1 c1 _ = _ from h)
              simp only [List.length_append, List.length_cons, List.length_nil, progN_add] at this
              omega
        · cases h
    · simp only [Except.ok.injEq, Prod.mk.injEq] at h
      obtain ⟨rfl, rfl⟩ := h
      omega
theorem progF_fuel {s : ByteArray} {l : List Tok} : ∀ (f g n c : Nat) (p : Prg), c ≤ 4096 → l.length + 1 ≤ f + n → l.length + 1 ≤ g + n → n ≤ l.length → progF s l f n c p = progF s l g n c p
  | 0, _, n, c, p, _, h, _, hn => by omega
  | _, 0, n, c, p, _, _, h, hn => by omega
  | f + 1, g + 1, n, c, p, hc, h1, h2, hn => by
    rw [progF, progF]
    split
    · split
      · split
        · rfl
        · rcases hV : arrV s l n with e | ⟨n1, x⟩
          · rfl
          · have h3 := arr_up hV
            exact progF_fuel f g n1 c _ hc (by omega) (by omega) h3.2
      · split
        · split
          · rfl
          · rcases hV : funcV s l n c with e | ⟨n1, c1, x⟩
            · rfl
            · have h3 := func_up hc hV
              exact progF_fuel f g n1 c1 _ h3.2.2 (by omega) (by omega) h3.2.1
        · rfl
    · rfl
section
variable {s : ByteArray} {l : List Tok} {s' : ByteArray} {l' : List Tok} {d c0 : Nat} (S : Sim s l s' l' d) (A0 : List Arr) (F0 : List Fun)
/-- Behind A0, F0 and c0 instructions. -/
def SimP (d c0 : Nat) (A0 : List Arr) (F0 : List Fun) (r r' : Except (Int × Int) (Nat × Prg)) : Prop :=
  match r with
  | .ok (n, q) => if c0 + progN q.funcs ≤ 4096 ∧ A0.length + q.arrays.length ≤ 16 ∧ F0.length + q.funcs.length ≤ 64 then ∃ q', r' = .ok (d + n, q') ∧ q'.arrays.map erA = A0 ++ q.arrays.map erA ∧ q'.funcs.map erF = F0 ++ q.funcs.map erF else ∃ a', r' = .error (a', 3)
  | .error (a, e) => c0 = 0 → A0 = [] → F0 = [] → ∃ a', r' = .error (a', e)
include S in
theorem sim_prog : ∀ (f n c : Nat) (p p' : Prg), n ≤ l.length → c ≤ 4096 → c = progN p.funcs → c0 + c ≤ 4096 → p.arrays.length ≤ 16 → p.funcs.length ≤ 64 → A0.length + p.arrays.length ≤ 16 → F0.length + p.funcs.length ≤ 64 →
    p'.arrays.map erA = A0 ++ p.arrays.map erA → p'.funcs.map erF = F0 ++ p.funcs.map erF → SimP d c0 A0 F0 (progF s l f n c p) (progF s' l' f (d + n) (c0 + c) p')
  | 0, n, c, p, p', _, _, _, _, _, _, _, _, _, _ => fun _ _ _ => ⟨_, rfl⟩
  | f + 1, n, c, p, p', hn, hc, hcp, hcc, h1, h2, h3, h4, h5, h6 => by
    have la : p'.arrays.length = A0.length + p.arrays.length := by have := congrArg List.length h5; simpa using this
    have lf : p'.funcs.length = F0.length + p.funcs.length := by have := congrArg List.length h6; simpa using this
    have hlen := S.len
    rw [progF, progF, S.text, la, lf]
    by_cases hlt : n < l.length
    rotate_left
    · have hlt' : ¬ d + n < l'.length := by omega
      rw [if_neg hlt, if_neg hlt']
      unfold SimP
      dsimp only
      rw [if_pos ⟨by omega, h3, h4⟩]
      exact ⟨p', rfl, h5, h6⟩
    have hlt' : d + n < l'.length := by omega
    rw [if_pos hlt, if_pos hlt']
    by_cases w1 : (txV s l n).data.toList = [97, 114, 114, 97, 121]
    · rw [if_pos w1, if_pos w1]
      by_cases k1 : 16 ≤ p.arrays.length
      · rw [if_pos k1, if_pos (by omega)]
        exact fun _ _ _ => ⟨_, rfl⟩
      rw [if_neg k1]
      have hs := sim_arr S n
      rcases hV : arrV s l n with ⟨a, e⟩ | ⟨n1, x⟩
      · rw [hV] at hs
        obtain ⟨a', e'⟩ := hs
        intro h0 hA hF
        rw [if_neg (by rw [hA] at h3 ⊢; simp only [List.length_nil]; omega), e']
        exact ⟨a', rfl⟩
      · rw [hV] at hs
        obtain ⟨x', e', hx⟩ := hs
        have hu := arr_up hV
        show SimP d c0 A0 F0 (progF s l f n1 c ⟨p.arrays ++ [x], p.funcs⟩) _
        by_cases k2 : 16 ≤ A0.length + p.arrays.length
        · rw [if_pos k2]
          rcases hK : progF s l f n1 c ⟨p.arrays ++ [x], p.funcs⟩ with ⟨a2, e2⟩ | ⟨n2, q⟩
          · intro h0 hA hF
            rw [hA] at k2
            simp only [List.length_nil] at k2
            omega
          · have hg := prog_grow (p := ⟨p.arrays ++ [x], p.funcs⟩) hc hcp (by rw [List.length_append]; simp only [List.length_cons, List.length_nil]; omega) h2 hK
            simp only [List.length_append, List.length_cons, List.length_nil] at hg
            unfold SimP
            dsimp only
            rw [if_neg (by omega)]
            exact ⟨_, rfl⟩
        · rw [if_neg k2, e']
          exact sim_prog f n1 c ⟨p.arrays ++ [x], p.funcs⟩ ⟨p'.arrays ++ [x'], p'.funcs⟩ hu.2 hc hcp hcc (by rw [List.length_append]; simp only [List.length_cons, List.length_nil]; omega) h2 (by rw [List.length_append]; simp only [List.length_cons, List.length_nil]; omega) h4
            (by show (p'.arrays ++ [x']).map erA = A0 ++ (p.arrays ++ [x]).map erA; rw [List.map_append, List.map_append, h5, List.append_assoc, List.map_cons, List.map_cons, show erA x = erA x' from hx]) h6
    rw [if_neg w1, if_neg w1]
    by_cases w2 : (txV s l n).data.toList = [102, 110]
    · rw [if_pos w2, if_pos w2]
      by_cases k1 : 64 ≤ p.funcs.length
      · rw [if_pos k1, if_pos (by omega)]
        exact fun _ _ _ => ⟨_, rfl⟩
      rw [if_neg k1]
      have hs := sim_func (c0 := c0) S n c hc hcc
      rcases hV : funcV s l n c with ⟨a, e⟩ | ⟨n1, c1, x⟩
      · rw [hV] at hs
        intro h0 hA hF
        obtain ⟨a', e'⟩ := hs h0
        rw [if_neg (by rw [hF] at h4 ⊢; simp only [List.length_nil]; omega), e']
        exact ⟨a', rfl⟩
      · rw [hV] at hs
        have hu := func_up hc hV
        have hf := func_count hV
        show SimP d c0 A0 F0 (progF s l f n1 c1 ⟨p.arrays, p.funcs ++ [x]⟩) _
        have big : (64 ≤ F0.length + p.funcs.length ∨ 4096 < c0 + c1) → (∃ a', (if 64 ≤ F0.length + p.funcs.length then Except.error (atV s' l' (d + n), 3) else bnd (funcV s' l' (d + n) (c0 + c)) fun n r => progF s' l' f n r.1 ⟨p'.arrays, p'.funcs ++ [r.2]⟩) = .error (a', 3)) → SimP d c0 A0 F0 (progF s l f n1 c1 ⟨p.arrays, p.funcs ++ [x]⟩) (if 64 ≤ F0.length + p.funcs.length then Except.error (atV s' l' (d + n), 3) else bnd (funcV s' l' (d + n) (c0 + c)) fun n r => progF s' l' f n r.1 ⟨p'.arrays, p'.funcs ++ [r.2]⟩) := fun hb ⟨a', e'⟩ => by
          rw [e']
          rcases hK : progF s l f n1 c1 ⟨p.arrays, p.funcs ++ [x]⟩ with ⟨a2, e2⟩ | ⟨n2, q⟩
          · intro h0 hA hF
            rw [hF] at hb
            simp only [List.length_nil] at hb
            omega
          · have hg := prog_grow (p := ⟨p.arrays, p.funcs ++ [x]⟩) hu.2.2 (by rw [progN_add]; omega) h1 (by rw [List.length_append]; simp only [List.length_cons, List.length_nil]; omega) hK
            simp only [List.length_append, List.length_cons, List.length_nil, progN_add] at hg
            unfold SimP
            dsimp only
            rw [if_neg (by omega)]
            exact ⟨a', rfl⟩
        unfold SimC at hs
        dsimp only at hs
        by_cases k2 : 64 ≤ F0.length + p.funcs.length
        · exact big (.inl k2) ⟨_, if_pos k2⟩
        · split at hs
          · rename_i k3
            obtain ⟨x', e', hx⟩ := hs
            rw [if_neg k2, e']
            exact sim_prog f n1 c1 ⟨p.arrays, p.funcs ++ [x]⟩ ⟨p'.arrays, p'.funcs ++ [x']⟩ hu.2.1 hu.2.2 (by rw [progN_add]; omega) k3 h1 (by rw [List.length_append]; simp only [List.length_cons, List.length_nil]; omega) h3 (by rw [List.length_append]; simp only [List.length_cons, List.length_nil]; omega) h5
              (by show (p'.funcs ++ [x']).map erF = F0 ++ (p.funcs ++ [x]).map erF; rw [List.map_append, List.map_append, h6, List.append_assoc, List.map_cons, List.map_cons, show erF x = erF x' from hx])
          · rename_i k3
            obtain ⟨a', e'⟩ := hs
            exact big (.inr (by omega)) ⟨a', by rw [if_neg k2, e']; rfl⟩
    · rw [if_neg w2, if_neg w2]
      exact fun _ _ _ => ⟨_, rfl⟩
end
/-! ### alike but for the places -/
theorem er_get {α β : Type} (g : α → β) {a b : List α} (h : a.map g = b.map g) (d : α) (i : Nat) : g (a.getD i d) = g (b.getD i d) := by
  have h1 := congrArg (fun l => l[i]?) h
  simp only [List.getElem?_map] at h1
  rw [List.getD_eq_getElem?_getD, List.getD_eq_getElem?_getD]
  cases ha : a[i]? <;> cases hb : b[i]? <;> rw [ha, hb] at h1 <;> simp_all
theorem er_len {α β : Type} (g : α → β) {a b : List α} (h : a.map g = b.map g) : a.length = b.length := by have := congrArg List.length h; simpa using this
theorem sameInsB_er {a b : Ins} (h : erI a = erI b) : sameInsB a b false = true := by
  obtain ⟨a1, a2, a3, a4, a5, a6, a7, a8, a9⟩ := a
  obtain ⟨b1, b2, b3, b4, b5, b6, b7, b8, b9⟩ := b
  simp only [erI, Ins.mk.injEq] at h
  obtain ⟨rfl, rfl, rfl, rfl, rfl, rfl, rfl, rfl, _⟩ := h
  unfold sameInsB
  simp [textsB_self]
theorem sameBlkB_er {a b : Blk} (h : erB a = erB b) : sameBlkB a b false = true := by
  simp only [erB, Blk.mk.injEq] at h
  obtain ⟨h1, h2, _⟩ := h
  unfold sameBlkB
  rw [allF_true (f := sameCodeB a.code b.code false) fun j => sameInsB_er (er_get erI h2 (ins0 0) j), decide_eq_true (er_len erI h2), h1]
  simp
theorem sameFunB_er {a b : Fun} (h : erF a = erF b) : sameFunB a b false = true := by
  simp only [erF, Fun.mk.injEq] at h
  obtain ⟨h1, h2, h3, _⟩ := h
  unfold sameFunB
  rw [allF_true fun j => sameBlkB_er (er_get erB h3 blk0 j), decide_eq_true (er_len erB h3), h1, h2, textsB_self]
  simp
theorem sameArrB_er {a b : Arr} (h : erA a = erA b) : sameArrB a b false = true := by
  simp only [erA, Arr.mk.injEq] at h
  obtain ⟨h1, h2, h3, _⟩ := h
  unfold sameArrB
  rw [h1, h2, h3]
  simp
theorem sameB_er {a b : Prg} (h1 : a.arrays.map erA = b.arrays.map erA) (h2 : a.funcs.map erF = b.funcs.map erF) : sameB a b false = true := by
  unfold sameB
  rw [allF_true fun j => sameArrB_er (er_get erA h1 arr0 j), allF_true fun j => sameFunB_er (er_get erF h2 fun0 j), decide_eq_true (er_len erA h1), decide_eq_true (er_len erF h2)]
  rfl
/-- Tokens of the same kinds and texts: the same program, the same error. -/
theorem parse_sim {s t : ByteArray} (hs : (allV s).2.2 = 0) (ht : (allV t).2.2 = 0) (S : Sim s (allV s).1 t (allV t).1 0) : (parseV s).2.2 = (parseV t).2.2 ∧ sameB (parseV s).1 (parseV t).1 false = true := by
  unfold parseV
  rw [if_pos hs, if_pos ht]
  have hlen := S.len
  have h := sim_prog (c0 := 0) S [] [] ((allV s).1.length + 1) 0 0 ⟨[], []⟩ ⟨[], []⟩ (Nat.zero_le _) (Nat.zero_le _) rfl (Nat.zero_le _) (Nat.zero_le _) (Nat.zero_le _) (Nat.zero_le _) (Nat.zero_le _) rfl rfl
  rw [show (0 + 0 : Nat) = 0 from rfl, show (allV s).1.length + 1 = (allV t).1.length + 1 by omega] at h
  rw [show (allV s).1.length + 1 = (allV t).1.length + 1 by omega]
  rcases hV : progF s (allV s).1 ((allV t).1.length + 1) 0 0 ⟨[], []⟩ with ⟨a, e⟩ | ⟨n, q⟩
  · rw [hV] at h
    obtain ⟨a', e'⟩ := h rfl rfl rfl
    rw [e']
    exact ⟨rfl, sameB_er rfl rfl⟩
  · rw [hV] at h
    have hg := prog_grow (Nat.zero_le _) rfl (Nat.zero_le _) (Nat.zero_le _) hV
    unfold SimP at h
    dsimp only at h
    rw [if_pos ⟨by omega, by show 0 + _ ≤ _; omega, by show 0 + _ ≤ _; omega⟩] at h
    obtain ⟨q', e', h1, h2⟩ := h
    rw [e']
    exact ⟨rfl, sameB_er h1.symm h2.symm⟩
end Go.Proofs.YtikkppdihepmdaaDoor

/- Tokens of a text that goes on, or that begins further on. -/
namespace Go.Proofs.YtikkppdihepmdaaDoor
open Go.Sx
set_option linter.unusedVariables false
set_option linter.unusedSimpArgs false
set_option maxRecDepth 100000

theorem dec_ext {sz sz' p a b c d b' c' d' : Nat} (hp : p < sz) (hz : sz < sz') (hb : p + 1 < sz → b' = b) (hc : p + 2 < sz → c' = c) (hd : p + 3 < sz → d' = d) (hb2 : p + 1 = sz → b' = 10) (hc2 : p + 2 = sz → c' = 10) (hd2 : p + 3 = sz → d' = 10) : dec sz' p a b' c' d' = dec sz p a b c d := by
  by_cases h1 : p + 1 < sz
  · have eb := hb h1
    subst eb
    by_cases h2 : p + 2 < sz
    · have ec := hc h2
      subst ec
      by_cases h3 : p + 3 < sz
      · have ed := hd h3
        subst ed
        unfold dec
        simp only [h1, h2, h3, show p + 1 < sz' by omega, show p + 2 < sz' by omega, show p + 3 < sz' by omega]
      · have ed := hd2 (by omega)
        subst ed
        unfold dec
        simp only [h1, h2, h3, show p + 1 < sz' by omega, show p + 2 < sz' by omega, show ¬ (10 / 64 = 2) by decide, and_false, false_and, if_false]
    · have ec := hc2 (by omega)
      subst ec
      unfold dec
      simp only [h1, h2, show p + 1 < sz' by omega, show ¬ (10 / 64 = 2) by decide, and_false, false_and, if_false]
  · have eb := hb2 (by omega)
    subst eb
    unfold dec
    simp only [h1, show ¬ (10 / 64 = 2) by decide, and_false, false_and, if_false]
theorem bt_end {s x : ByteArray} (h10 : bt x 0 = 10) : bt (s ++ x) s.size = 10 := by have := bt_right s x 0; rw [Nat.add_zero] at this; rw [this, h10]
section
variable {s x : ByteArray} (hx : 0 < x.size) (h10 : bt x 0 = 10)
include hx h10
theorem decode_ext {p : Nat} (hp : p < s.size) : Utf8.decode (s ++ x) p = Utf8.decode s p := by
  have he := bt_end (s := s) h10
  rw [decode_eq, decode_eq, bt_left hp]
  refine dec_ext hp (by rw [app_size]; omega) (fun h => bt_left h) (fun h => bt_left h) (fun h => bt_left h) (fun h => by rw [h]; exact he) (fun h => by rw [h]; exact he) (fun h => by rw [h]; exact he)
theorem skV_ext : ∀ (n : Nat) (rm : Bool) (p : Nat), s.size ≤ p + n → p ≤ s.size → (skV s rm p < s.size → skV (s ++ x) rm p = skV s rm p) ∧ (skV s rm p = s.size → skV (s ++ x) rm p = skV (s ++ x) false (s.size + 1))
  | n, rm, p, h, hp => by
    have hz : s.size < (s ++ x).size := by rw [app_size]; omega
    by_cases hl : p < s.size
    · match n with
      | 0 => omega
      | n + 1 =>
        have eb : bt (s ++ x) p = bt s p := bt_left hl
        rw [skV_step hl, skV_step (by omega : p < (s ++ x).size), eb]
        cases hs : stopB (nextR (bt s p) rm) (bt s p) with
        | true => exact ⟨fun _ => rfl, fun e => by simp at e; omega⟩
        | false =>
          simp only [Bool.false_eq_true, if_false]
          exact skV_ext n _ _ (by omega) (by omega)
    · have e : p = s.size := by omega
      subst e
      rw [skV_end (Nat.le_refl _)]
      refine ⟨fun h => by omega, fun _ => ?_⟩
      have eb := bt_end (s := s) h10
      rw [skV_step hz, eb]
      rfl
omit hx in
theorem plain_end : plainB (s ++ x) s.size = false := by
  have eb := bt_end (s := s) h10
  unfold plainB
  rw [decode_ascii (by omega), eb]
  decide
theorem rowV_ext : ∀ (n p : Nat), s.size ≤ p + n → p ≤ s.size → rowV (s ++ x) p = rowV s p
  | n, p, h, hp => by
    have hz : s.size < (s ++ x).size := by rw [app_size]; omega
    by_cases hl : p < s.size
    · match n with
      | 0 => omega
      | n + 1 =>
        have ed := decode_ext hx h10 hl
        have hr := decode_room hl
        have h1 := (decode_pos s p).1
        rw [rowV_step hl, rowV_step (by omega : p < (s ++ x).size), plainB, plainB, ed]
        split
        · exact rowV_ext n _ (by omega) hr
        · rfl
    · have e : p = s.size := by omega
      subst e
      rw [rowV_end (Nat.le_refl _), rowV_step hz, plain_end h10]
      rfl
theorem digAt_ext {p : Nat} (hp : p ≤ s.size) : digAt (s ++ x) p = digAt s p := by
  have hz : s.size < (s ++ x).size := by rw [app_size]; omega
  unfold digAt
  by_cases hl : p < s.size
  · rw [bt_left hl, decide_eq_true hl, decide_eq_true (by omega : p < (s ++ x).size)]
  · have e : p = s.size := by omega
    subst e
    rw [bt_end h10, decide_eq_false (by omega : ¬ s.size < s.size)]
    simp
theorem pieceEnd_ext {p : Nat} (hp : p < s.size) : pieceEnd (s ++ x) p = pieceEnd s p := by
  unfold pieceEnd
  rw [bt_left hp, digAt_ext hx h10 (by omega), rowV_ext hx h10 s.size (p + 1) (by omega) (by omega), rowV_ext hx h10 s.size p (by omega) (by omega)]
end
theorem ex_data (s : ByteArray) (p q : Nat) : (s.extract p q).data.toList = (s.data.toList.drop p).take (q - p) := by
  rw [ByteArray.data_extract, Array.toList_extract, List.extract_eq_take_drop]
theorem ba_inj {a b : ByteArray} (h : a.data.toList = b.data.toList) : a = b := by rw [ba_eq a, ba_eq b, h]
theorem ex_left (s x : ByteArray) {p q : Nat} (hq : q ≤ s.size) : (s ++ x).extract p q = s.extract p q := by
  refine ba_inj ?_
  rw [size_list] at hq
  rw [ex_data, ex_data, app_data]
  by_cases hp : p ≤ s.data.toList.length
  · rw [List.drop_append_of_le_length hp, List.take_append_of_le_length (by rw [List.length_drop]; omega)]
  · rw [show q - p = 0 by omega]; simp
theorem ex_right (c y : ByteArray) (p q : Nat) : (c ++ y).extract (c.size + p) (c.size + q) = y.extract p q := by
  refine ba_inj ?_
  rw [ex_data, ex_data, app_data, size_list c, show c.data.toList.length + q - (c.data.toList.length + p) = q - p by omega, ← List.drop_drop, List.drop_left]
theorem oneN_ext {s x : ByteArray} (hx : 0 < x.size) (h10 : bt x 0 = 10) {a : Nat} (ha : a ≤ s.size) : (skV s false a < s.size → oneN (s ++ x) a = oneN s a) ∧ (skV s false a = s.size → oneN (s ++ x) a = oneN (s ++ x) (s.size + 1)) := by
  obtain ⟨e1, e2⟩ := skV_ext hx h10 s.size false a (by omega) ha
  have hz : s.size < (s ++ x).size := by rw [app_size]; omega
  refine ⟨fun h => ?_, fun h => ?_⟩
  · have e := e1 h
    obtain ⟨p, hp⟩ : ∃ p, skV s false a = p := ⟨_, rfl⟩
    rw [hp] at h e
    have hpe := pieceEnd_le h
    unfold oneN
    rw [e, hp, if_neg (show ¬ p = (s ++ x).size by omega), if_neg (show ¬ p = s.size by omega), bt_left h, pieceEnd_ext hx h10 h, ex_left s x hpe.2]
  · unfold oneN
    rw [e2 h]
/-! ### further on -/
theorem skV_shift (c y : ByteArray) : ∀ (n : Nat) (rm : Bool) (q : Nat), y.size ≤ q + n → skV (c ++ y) rm (c.size + q) = c.size + skV y rm q
  | n, rm, q, h => by
    by_cases hl : q < y.size
    · match n with
      | 0 => omega
      | n + 1 =>
        rw [skV_step hl, skV_step (by rw [app_size]; omega), bt_right]
        split
        · rfl
        · exact skV_shift c y n _ (q + 1) (by omega)
    · rw [skV_end (by rw [app_size]; omega), skV_end (by omega)]
theorem rowV_shift (c y : ByteArray) : ∀ (n q : Nat), y.size ≤ q + n → rowV (c ++ y) (c.size + q) = c.size + rowV y q
  | n, q, h => by
    by_cases hl : q < y.size
    · match n with
      | 0 => omega
      | n + 1 =>
        have h1 := (decode_pos y q).1
        rw [rowV_step hl, rowV_step (by rw [app_size]; omega), plainB, plainB, decode_right]
        split
        · rw [Nat.add_assoc]; exact rowV_shift c y n _ (by omega)
        · rfl
    · rw [rowV_end (by rw [app_size]; omega), rowV_end (by omega)]
theorem pieceEnd_shift (c y : ByteArray) (q : Nat) : pieceEnd (c ++ y) (c.size + q) = c.size + pieceEnd y q := by
  have ed : digAt (c ++ y) (c.size + q + 1) = digAt y (q + 1) := by
    unfold digAt
    rw [Nat.add_assoc, bt_right, app_size]
    congr 1
    rw [Bool.eq_iff_iff, decide_eq_true_eq, decide_eq_true_eq]; omega
  unfold pieceEnd
  rw [bt_right, ed, Nat.add_assoc, rowV_shift c y y.size (q + 1) (by omega), rowV_shift c y y.size q (by omega)]
  split <;> rfl
def shT (k : Nat) (t : Tok) : Tok := ⟨t.k, t.f + k, t.t + k⟩
def shE (k : Nat) (r : Tok × Int × Int) : Tok × Int × Int := if r.2.2 = 0 then (shT k r.1, r.2) else (r.1, r.2.1 + k, r.2.2)
theorem oneN_shift (c y : ByteArray) (q : Nat) (hq : q ≤ y.size) : oneN (c ++ y) (c.size + q) = shE c.size (oneN y q) := by
  have hs := skV_shift c y y.size false q (by omega)
  have hle := skV_le y y.size false q (by omega) hq
  obtain ⟨p, hp⟩ : ∃ p, skV y false q = p := ⟨_, rfl⟩
  rw [hp] at hs hle
  by_cases e : p = y.size
  · rw [oneN_none hp e, oneN_none hs (by rw [app_size]; omega), app_size]
    unfold shE
    rw [if_neg (show ¬ ((4 : Int) = 0) by decide)]
    refine Prod.ext rfl (Prod.ext ?_ rfl)
    show ((c.size + y.size : Nat) : Int) = (y.size : Int) + c.size; omega
  · have e2 : c.size + p ≠ (c ++ y).size := by rw [app_size]; omega
    cases hb : signB (bt y p) with
    | true =>
      rw [oneN_sign hp e hb, oneN_sign hs e2 (by rw [bt_right]; exact hb)]
      unfold shE shT
      rw [if_pos rfl]
      refine Prod.ext ?_ rfl
      show (⟨4, ((c.size + p : Nat) : Int), ((c.size + p : Nat) : Int) + 1⟩ : Tok) = ⟨4, (p : Int) + c.size, (p : Int) + 1 + c.size⟩
      congr 1 <;> omega
    | false =>
      have hpe := pieceEnd_shift c y p
      have hex := ex_right c y p (pieceEnd y p)
      by_cases hk : kindOf (y.extract p (pieceEnd y p)) = 0
      · rw [oneN_bad hp e hb hk, oneN_bad hs e2 (by rw [bt_right]; exact hb) (by rw [hpe, hex]; exact hk)]
        unfold shE
        rw [if_neg (show ¬ ((6 : Int) = 0) by decide)]
        refine Prod.ext rfl (Prod.ext ?_ rfl)
        show ((c.size + p : Nat) : Int) = (p : Int) + c.size; omega
      · rw [oneN_ok hp e hb hk, oneN_ok hs e2 (by rw [bt_right]; exact hb) (by rw [hpe, hex]; exact hk), hpe, hex]
        unfold shE shT
        rw [if_pos rfl]
        refine Prod.ext ?_ rfl
        show (⟨_, ((c.size + p : Nat) : Int), ((c.size + pieceEnd y p : Nat) : Int)⟩ : Tok) = ⟨_, (p : Int) + c.size, (pieceEnd y p : Int) + c.size⟩
        congr 1 <;> omega
/-! ### where bytes are no text -/
theorem form_go {s : ByteArray} {p : Nat} (h : p < s.size) : (formV s (p : Int)).2 ≠ 0 → (p : Int) + (formV s (p : Int)).2 = ((p + (Utf8.decode s p).2 : Nat) : Int) := fun hne => by
  have := nextV_at h
  unfold nextV at this
  rwa [if_neg hne] at this
theorem form_congr {s y : ByteArray} {p q : Nat} (hp : p < s.size) (hq : q < y.size) (hd : Utf8.decode s p = Utf8.decode y q) : (formV s (p : Int)).2 = 0 ↔ (formV y (q : Int)).2 = 0 := by
  rw [form_zero hp, form_zero hq, hd]
theorem badV_fuel (s : ByteArray) : ∀ (n m p : Nat), s.size ≤ p + n → s.size ≤ p + m → badV s n (p : Int) = badV s m (p : Int)
  | 0, m, p, h, _ => by rw [badV_end (by omega), badV_end (by omega)]
  | n + 1, 0, p, _, h => by rw [badV_end (by omega), badV_end (by omega)]
  | n + 1, m + 1, p, h1, h2 => by
    rw [badV, badV]
    split
    · rename_i hl
      have hl : p < s.size := by omega
      split
      · rfl
      · rename_i h0
        rw [form_go hl h0]
        have := (decode_pos s p).1
        exact badV_fuel s n m _ (by omega) (by omega)
    · rfl
theorem badV_ge (s : ByteArray) : ∀ (n p : Nat), badV s n (p : Int) = -1 ∨ (p : Int) ≤ badV s n (p : Int) ∧ badV s n (p : Int) < s.size
  | 0, p => .inl rfl
  | n + 1, p => by
    rw [badV]
    split
    · rename_i hl
      have hl : p < s.size := by omega
      split
      · exact .inr ⟨Int.le_refl _, by omega⟩
      · rename_i h0
        rw [form_go hl h0]
        rcases badV_ge s n (p + (Utf8.decode s p).2) with h | h
        · exact .inl h
        · exact .inr ⟨by omega, h.2⟩
    · exact .inl rfl
theorem badV_ext {s x : ByteArray} (hx : 0 < x.size) (h10 : bt x 0 = 10) : ∀ (n p : Nat), s.size ≤ p + n → p ≤ s.size →
    badV (s ++ x) (s ++ x).size (p : Int) = if badV s s.size (p : Int) = -1 then badV (s ++ x) (s ++ x).size (s.size : Int) else badV s s.size (p : Int)
  | n, p, h, hp => by
    have hz : s.size < (s ++ x).size := by rw [app_size]; omega
    by_cases hl : p < s.size
    · match n with
      | 0 => omega
      | n + 1 =>
        have ed := decode_ext hx h10 hl
        have hc := form_congr (by omega : p < (s ++ x).size) hl ed
        have hr := decode_room hl
        have h1 := (decode_pos s p).1
        have e1 := badV_fuel s s.size (s.size - 1 + 1) p (by omega) (by omega)
        have e2 := badV_fuel (s ++ x) (s ++ x).size ((s ++ x).size - 1 + 1) p (by omega) (by omega)
        rw [badV, if_pos (by omega)] at e1 e2
        rw [e1, e2]
        by_cases h0 : (formV s (p : Int)).2 = 0
        · rw [if_pos h0, if_pos (hc.2 h0), if_neg (by omega)]
        · have h0' : (formV (s ++ x) (p : Int)).2 ≠ 0 := fun e => h0 (hc.1 e)
          rw [if_neg h0, if_neg h0', form_go hl h0, form_go (by omega) h0', ed]
          rw [badV_fuel s (s.size - 1) s.size _ (by omega) (by omega), badV_fuel (s ++ x) ((s ++ x).size - 1) (s ++ x).size _ (by omega) (by omega)]
          exact badV_ext hx h10 n _ (by omega) hr
    · have e : p = s.size := by omega
      subst e
      rw [badV_end (s := s) (by omega), if_pos rfl]
theorem badV_shift (c y : ByteArray) : ∀ (n q : Nat), y.size ≤ q + n → badV (c ++ y) (c ++ y).size ((c.size + q : Nat) : Int) = if badV y y.size (q : Int) = -1 then -1 else badV y y.size (q : Int) + c.size
  | n, q, h => by
    by_cases hl : q < y.size
    · match n with
      | 0 => omega
      | n + 1 =>
        have hl2 : c.size + q < (c ++ y).size := by rw [app_size]; omega
        have ed := decode_right c y q
        have hc := form_congr hl2 hl ed
        have h1 := (decode_pos y q).1
        have e1 := badV_fuel y y.size (y.size - 1 + 1) q (by omega) (by omega)
        have e2 := badV_fuel (c ++ y) (c ++ y).size ((c ++ y).size - 1 + 1) (c.size + q) (by omega) (by omega)
        rw [badV, if_pos (by omega)] at e1 e2
        rw [e1, e2]
        by_cases h0 : (formV y (q : Int)).2 = 0
        · rw [if_pos h0, if_pos (hc.2 h0), if_neg (by omega)]; omega
        · have h0' : (formV (c ++ y) ((c.size + q : Nat) : Int)).2 ≠ 0 := fun e => h0 (hc.1 e)
          rw [if_neg h0, if_neg h0', form_go hl h0, form_go hl2 h0', ed, Nat.add_assoc]
          rw [badV_fuel y (y.size - 1) y.size _ (by omega) (by omega), badV_fuel (c ++ y) ((c ++ y).size - 1) (c ++ y).size _ (by rw [app_size]; omega) (by rw [app_size]; omega)]
          exact badV_shift c y n _ (by omega)
    · rw [badV_end (by rw [app_size]; omega), badV_end (by omega), if_pos rfl]
end Go.Proofs.YtikkppdihepmdaaDoor

/- All tokens, one behind the other; the laws TokenJoins, TokenRemarks. -/
namespace Go.Proofs.YtikkppdihepmdaaDoor
open Go.Sx
set_option linter.unusedVariables false
set_option linter.unusedSimpArgs false
set_option maxRecDepth 100000

/-- From a on stand the tokens l, and then there is none, for the reason r. -/
def Run (s : ByteArray) : Nat → List Tok → Int × Int → Prop
  | a, [], r => (oneN s a).2 = r ∧ r.2 ≠ 0
  | a, t :: l, r => oneN s a = (t, 0, 0) ∧ (a : Int) ≤ t.f ∧ t.f < t.t ∧ t.t ≤ s.size ∧ Run s t.t.toNat l r
theorem one_zero {s : ByteArray} {a : Nat} (h : (oneN s a).2.2 = 0) : (oneN s a).2.1 = 0 := by
  unfold oneN at h ⊢
  split
  · rename_i e; rw [if_pos e] at h; exact absurd h (show ¬ ((4 : Int) = 0) by decide)
  · rename_i e
    rw [if_neg e] at h
    split
    · rfl
    · rename_i e2
      rw [if_neg e2] at h
      split
      · rename_i e3; rw [if_pos e3] at h; exact absurd h (show ¬ ((6 : Int) = 0) by decide)
      · rfl
theorem run_ex (s : ByteArray) : ∀ (n a : Nat), s.size ≤ a + n → a ≤ s.size → ∃ l r, Run s a l r
  | n, a, h, ha => by
    rcases one_facts ha with ⟨h0, h1, h2, h3⟩ | h4 | h6
    · match n with
      | 0 => omega
      | n + 1 =>
        obtain ⟨l, r, hr⟩ := run_ex s n (oneN s a).1.t.toNat (by omega) (by omega)
        exact ⟨(oneN s a).1 :: l, r, Prod.ext rfl (Prod.ext (one_zero h0) h0), h1, h2, h3, hr⟩
    · exact ⟨[], _, rfl, by omega⟩
    · exact ⟨[], _, rfl, by omega⟩
theorem run_toks {s : ByteArray} : ∀ {l : List Tok} {a n : Nat} {r : Int × Int} (out : List Tok), Run s a l r → s.size + 1 ≤ a + n → a ≤ s.size → toksF s n a out = if r.2 = 4 then (out ++ l, 0, 0) else ([], r.1, r.2)
  | [], a, n, r, out, h, hn, ha => by
    obtain ⟨n, rfl⟩ : ∃ m, n = m + 1 := ⟨n - 1, by omega⟩
    obtain ⟨h1, h2⟩ := h
    subst h1
    rw [toksF, List.append_nil]
    by_cases e : (oneN s a).2.2 = 4
    · rw [if_pos e, if_pos e]
    · rw [if_neg e, if_neg e, if_neg h2]
  | t :: l, a, n, r, out, h, hn, ha => by
    obtain ⟨n, rfl⟩ : ∃ m, n = m + 1 := ⟨n - 1, by omega⟩
    obtain ⟨h1, h2, h3, h4, h5⟩ := h
    rw [toksF, h1, if_neg (show ¬ ((0 : Int) = 4) by decide), if_pos rfl]
    show toksF s n t.t.toNat (out ++ [t]) = _
    rw [run_toks (out ++ [t]) h5 (by omega) (by omega), List.append_assoc]
    rfl
theorem run_end {s : ByteArray} : ∀ {l : List Tok} {a : Nat} {r : Int × Int}, Run s a l r → a ≤ s.size → r.2 = 4 ∨ r.2 = 6
  | [], a, r, ⟨h1, h2⟩, ha => by
    rcases one_facts ha with ⟨h0, _⟩ | h4 | h6
    · rw [h1] at h0; exact absurd h0 h2
    · rw [h1] at h4; exact .inl h4
    · rw [h1] at h6; exact .inr h6
  | t :: l, a, r, ⟨h1, h2, h3, h4, h5⟩, ha => run_end h5 (by omega)
/-- A text goes on behind a line's end. -/
theorem run_ext {s x : ByteArray} (hx : 0 < x.size) (h10 : bt x 0 = 10) : ∀ {l : List Tok} {a : Nat} {r : Int × Int}, Run s a l r → a ≤ s.size →
    (r.2 = 6 → Run (s ++ x) a l r) ∧ (r.2 = 4 → ∀ m r', Run (s ++ x) (s.size + 1) m r' → (m = [] ∨ ∃ t, m.head? = some t ∧ (s.size : Int) + 1 ≤ t.f) → Run (s ++ x) a (l ++ m) r')
  | [], a, r, ⟨h1, h2⟩, ha => by
    obtain ⟨e1, e2⟩ := oneN_ext hx h10 ha
    have hle := skV_le s s.size false a (by omega) ha
    have h4 : (oneN s a).2.2 = 4 ↔ skV s false a = s.size := by
      constructor
      · intro h
        unfold oneN at h
        by_cases e : skV s false a = s.size
        · exact e
        · rw [if_neg e] at h
          split at h
          · exact absurd h (show ¬ ((0 : Int) = 4) by decide)
          · split at h
            · exact absurd h (show ¬ ((6 : Int) = 4) by decide)
            · exact absurd h (show ¬ ((0 : Int) = 4) by decide)
      · intro h; rw [oneN_none rfl h]
    refine ⟨fun h6 => ⟨?_, h2⟩, fun h => ?_⟩
    · rw [e1 (by
        have : ¬ skV s false a = s.size := fun e => by have := h4.2 e; rw [h1] at this; omega
        omega)]
      exact h1
    · intro m r' hm hhead
      have he := e2 (h4.1 (by rw [h1]; exact h))
      match m, hm with
      | [], hm => exact ⟨by rw [he]; exact hm.1, hm.2⟩
      | t :: m, ⟨g1, g2, g3, g4, g5⟩ => exact ⟨by rw [he]; exact g1, by omega, g3, g4, g5⟩
  | t :: l, a, r, ⟨h1, h2, h3, h4, h5⟩, ha => by
    obtain ⟨i1, i2⟩ := run_ext hx h10 h5 (by omega)
    have hlt : skV s false a < s.size := by
      have hle := skV_le s s.size false a (by omega) ha
      rcases Nat.lt_or_ge (skV s false a) s.size with h | h
      · exact h
      · have := oneN_none (s := s) (a := a) rfl (by omega)
        rw [h1] at this
        have := congrArg (fun r => r.2.2) this
        exact absurd this (show ¬ ((0 : Int) = 4) by decide)
    have e := (oneN_ext hx h10 ha).1 hlt
    have hz : s.size ≤ (s ++ x).size := by rw [app_size]; omega
    exact ⟨fun h => ⟨by rw [e]; exact h1, h2, h3, by omega, i1 h⟩, fun h m r' hm hh => ⟨by rw [e]; exact h1, h2, h3, by omega, i2 h m r' hm hh⟩⟩
/-- A text begins further on. -/
theorem run_shift (c y : ByteArray) : ∀ {l : List Tok} {q : Nat} {r : Int × Int}, Run y q l r → q ≤ y.size → Run (c ++ y) (c.size + q) (l.map (shT c.size)) (r.1 + c.size, r.2)
  | [], q, r, ⟨h1, h2⟩, hq => by
    refine ⟨?_, h2⟩
    rw [oneN_shift c y q hq]
    unfold shE
    rw [if_neg (by rw [h1]; exact h2), h1]
  | t :: l, q, r, ⟨h1, h2, h3, h4, h5⟩, hq => by
    refine ⟨?_, ?_, ?_, ?_, ?_⟩
    · rw [oneN_shift c y q hq, h1]
      unfold shE
      rw [if_pos rfl]
    · show ((c.size + q : Nat) : Int) ≤ t.f + c.size; omega
    · show t.f + c.size < t.t + c.size; omega
    · show t.t + (c.size : Int) ≤ (c ++ y).size; rw [app_size]; omega
    · have := run_shift c y h5 (by omega)
      rwa [show c.size + t.t.toNat = (shT c.size t).t.toNat by show _ = (t.t + (c.size : Int)).toNat; omega] at this
theorem run_first {s : ByteArray} {l : List Tok} {a : Nat} {r : Int × Int} (h : Run s a l r) : l = [] ∨ ∃ t, l.head? = some t ∧ (a : Int) ≤ t.f := by
  match l, h with
  | [], _ => exact .inl rfl
  | t :: l, h => exact .inr ⟨t, rfl, h.2.1⟩
/-- What All says, of a text that isn't too long. -/
theorem allV_bad {s : ByteArray} (h : s.size ≤ 65536) (hb : 0 ≤ badV s s.size 0) : allV s = ([], badV s s.size 0, 5) := by
  rw [allV, if_neg (by omega), if_pos hb]
theorem allV_run {s : ByteArray} (h : s.size ≤ 65536) (hb : badV s s.size 0 = -1) {l : List Tok} {r : Int × Int} (hr : Run s 0 l r) : allV s = if r.2 = 4 then (l, 0, 0) else ([], r.1, r.2) := by
  rw [allV, if_neg (by omega), if_neg (by omega), run_toks [] hr (by omega) (by omega), List.nil_append]
theorem bad_cases (s : ByteArray) : badV s s.size 0 = -1 ∨ 0 ≤ badV s s.size 0 ∧ badV s s.size 0 < s.size := badV_ge s s.size 0
def nl : ByteArray := ⟨#[10]⟩
theorem app_assoc (a b c : ByteArray) : a ++ b ++ c = a ++ (b ++ c) := ba_inj (by rw [app_data, app_data, app_data, app_data, List.append_assoc])
theorem nl_size (b : ByteArray) : (nl ++ b).size = b.size + 1 := by rw [app_size]; show 1 + b.size = _; omega
theorem nl_ten (b : ByteArray) : bt (nl ++ b) 0 = 10 := by
  rw [bt_left (by decide)]; decide +kernel
theorem bad_nl (a b : ByteArray) : badV (a ++ (nl ++ b)) (a ++ (nl ++ b)).size 0 = if badV a a.size 0 = -1 then (if badV b b.size 0 = -1 then -1 else badV b b.size 0 + (a.size + 1 : Nat)) else badV a a.size 0 := by
  have h1 := badV_ext (s := a) (x := nl ++ b) (by rw [nl_size]; omega) (nl_ten b) a.size 0 (by omega) (by omega)
  have h1 : badV (a ++ (nl ++ b)) (a ++ (nl ++ b)).size 0 = if badV a a.size 0 = -1 then badV (a ++ (nl ++ b)) (a ++ (nl ++ b)).size (a.size : Int) else badV a a.size 0 := h1
  have h2 := badV_shift (a ++ nl) b b.size 0 (by omega)
  have hk : (a ++ nl).size = a.size + 1 := app_size a nl
  rw [app_assoc, hk] at h2
  have h2 : badV (a ++ (nl ++ b)) (a ++ (nl ++ b)).size ((a.size + 1 : Nat) : Int) = if badV b b.size 0 = -1 then -1 else badV b b.size 0 + (a.size + 1 : Nat) := h2
  have hs : a.size < (a ++ (nl ++ b)).size := by rw [app_size, nl_size]; omega
  have hd : Utf8.decode (a ++ (nl ++ b)) a.size = (10, 1) := by
    have e := bt_end (s := a) (x := nl ++ b) (nl_ten b)
    rw [decode_ascii (by omega), e]
  have h3 : badV (a ++ (nl ++ b)) (a ++ (nl ++ b)).size (a.size : Int) = badV (a ++ (nl ++ b)) (a ++ (nl ++ b)).size ((a.size + 1 : Nat) : Int) := by
    rw [badV_fuel _ (a ++ (nl ++ b)).size ((a ++ (nl ++ b)).size - 1 + 1) a.size (by omega) (by omega), badV, if_pos (by omega)]
    have hf : (formV (a ++ (nl ++ b)) (a.size : Int)).2 ≠ 0 := fun e => by
      have := (form_zero hs).1 e
      rw [hd] at this
      exact absurd this.1 (by decide)
    rw [if_neg hf, form_go hs hf, hd]
    exact badV_fuel _ _ _ _ (by omega) (by omega)
  rw [h1, h3, h2]
theorem joins_plain {a b : ByteArray} (ha : a.size ≤ 10000) (hb : b.size ≤ 10000) (he : (allV a).2.2 = 0) :
    allV (a ++ (nl ++ b)) = if (allV b).2.2 = 0 then ((allV a).1 ++ (allV b).1.map (shT (a.size + 1)), 0, 0) else ([], (allV b).2.1 + (a.size + 1 : Nat), (allV b).2.2) := by
  have hsz : (a ++ (nl ++ b)).size = a.size + b.size + 1 := by rw [app_size, nl_size]; omega
  obtain ⟨l, r, hl⟩ := run_ex a a.size 0 (by omega) (by omega)
  obtain ⟨m, r2, hm⟩ := run_ex b b.size 0 (by omega) (by omega)
  rcases bad_cases a with hba | ⟨hba, _⟩
  · have ea := allV_run (by omega) hba hl
    have hr4 : r.2 = 4 := by
      rcases run_end hl (by omega) with h | h
      · exact h
      · rw [ea, if_neg (by omega)] at he; exact absurd he (by show ¬ r.2 = 0; omega)
    rw [if_pos hr4] at ea
    have hbn := bad_nl a b
    rw [if_pos hba] at hbn
    rcases bad_cases b with hbb | ⟨hbb, _⟩
    · rw [if_pos hbb] at hbn
      have eb := allV_run (by omega) hbb hm
      have hsh := run_shift (a ++ nl) b hm (by omega)
      have hk : (a ++ nl).size = a.size + 1 := app_size a nl
      rw [app_assoc, hk] at hsh
      have hsh : Run (a ++ (nl ++ b)) (a.size + 1) (m.map (shT (a.size + 1))) (r2.1 + (a.size + 1 : Nat), r2.2) := hsh
      have hfirst : m.map (shT (a.size + 1)) = [] ∨ ∃ t, (m.map (shT (a.size + 1))).head? = some t ∧ (a.size : Int) + 1 ≤ t.f := by
        rcases run_first hsh with h | ⟨t, h1, h2⟩
        · exact .inl h
        · exact .inr ⟨t, h1, by omega⟩
      have hall := (run_ext (s := a) (x := nl ++ b) (by rw [nl_size]; omega) (nl_ten b) hl (by omega)).2 hr4 _ _ hsh hfirst
      rw [allV_run (by omega) hbn hall, ea, eb]
      rcases run_end hm (by omega) with h | h
      · rw [if_pos h, if_pos h]; rfl
      · have n4 : ¬ r2.2 = 4 := by omega
        rw [if_neg n4, if_neg (show ¬ ((r2.1 + ((a.size + 1 : Nat) : Int), r2.2).2 = 4) from n4), if_neg (show ¬ r2.2 = 0 by omega)]
    · rw [if_neg (by omega)] at hbn
      rw [allV_bad (by omega) (by rw [hbn]; omega), hbn, allV_bad (by omega) hbb, if_neg (show ¬ ((5 : Int) = 0) by decide)]
  · rw [allV_bad (by omega) hba] at he
    exact absurd he (show ¬ ((5 : Int) = 0) by decide)
end Go.Proofs.YtikkppdihepmdaaDoor

/- A token's bytes by themselves, with a remark behind: the same token; all of them so: the same tokens. -/
namespace Go.Proofs.YtikkppdihepmdaaDoor
open Go.Sx
set_option linter.unusedVariables false
set_option linter.unusedSimpArgs false
set_option maxRecDepth 100000

/-- Of a rune that is none that can't be read, the bytes behind it are not looked at. -/
theorem dec_up {sz sz' p a b c d b' c' d' : Nat} (hz : sz ≤ sz') (hb : p + 1 < sz → b' = b) (hc : p + 2 < sz → c' = c) (hd : p + 3 < sz → d' = d) (h : (dec sz p a b c d).1 ≠ 65533) : dec sz' p a b' c' d' = dec sz p a b c d := by
  unfold dec at h ⊢
  by_cases h1 : a < 128
  · rw [if_pos h1, if_pos h1]
  rw [if_neg h1] at h ⊢
  rw [if_neg h1]
  by_cases c2 : a / 32 = 6 ∧ p + 1 < sz ∧ b / 64 = 2
  · have eb := hb c2.2.1
    subst eb
    rw [if_pos c2, if_pos ⟨c2.1, by omega, c2.2.2⟩]
  rw [if_neg c2] at h ⊢
  by_cases c3 : a / 16 = 14 ∧ p + 1 < sz ∧ b / 64 = 2 ∧ p + 2 < sz ∧ c / 64 = 2
  · have eb := hb c3.2.1
    have ec := hc c3.2.2.2.1
    subst eb ec
    rw [if_pos c3, if_neg (show ¬ (a / 32 = 6 ∧ _) by omega), if_pos ⟨c3.1, by omega, c3.2.2.1, by omega, c3.2.2.2.2⟩]
  rw [if_neg c3] at h ⊢
  by_cases c4 : a / 8 = 30 ∧ p + 1 < sz ∧ b / 64 = 2 ∧ p + 2 < sz ∧ c / 64 = 2 ∧ p + 3 < sz ∧ d / 64 = 2
  · have eb := hb c4.2.1
    have ec := hc c4.2.2.2.1
    have ed := hd c4.2.2.2.2.2.1
    subst eb ec ed
    rw [if_pos c4, if_neg (show ¬ (a / 32 = 6 ∧ _) by omega), if_neg (show ¬ (a / 16 = 14 ∧ _) by omega), if_pos ⟨c4.1, by omega, c4.2.2.1, by omega, c4.2.2.2.2.1, by omega, c4.2.2.2.2.2.2⟩]
  rw [if_neg c4] at h
  exact absurd rfl h
theorem dec_cut {sz sz' p a b c d b' c' d' : Nat} (hz : sz ≤ sz') (hb : p + 1 < sz → b' = b) (hc : p + 2 < sz → c' = c) (hd : p + 3 < sz → d' = d) (h : (dec sz' p a b' c' d').1 ≠ 65533) (hr : p + (dec sz' p a b' c' d').2 ≤ sz) : dec sz p a b c d = dec sz' p a b' c' d' := by
  unfold dec at h hr ⊢
  by_cases h1 : a < 128
  · rw [if_pos h1, if_pos h1]
  rw [if_neg h1] at h hr ⊢
  rw [if_neg h1]
  by_cases c2 : a / 32 = 6 ∧ p + 1 < sz' ∧ b' / 64 = 2
  · rw [if_pos c2] at h hr ⊢
    by_cases v : 128 ≤ a % 32 * 64 + b' % 64
    · rw [if_pos v] at hr
      dsimp only at hr
      have eb := hb (by omega)
      subst eb
      rw [if_pos ⟨c2.1, by omega, c2.2.2⟩]
    · rw [if_neg v] at h; exact absurd rfl h
  rw [if_neg c2] at h hr ⊢
  rw [if_neg (show ¬ (a / 32 = 6 ∧ p + 1 < sz ∧ b / 64 = 2) from fun ⟨x, y, z⟩ => c2 ⟨x, by omega, by rw [hb y]; exact z⟩)]
  by_cases c3 : a / 16 = 14 ∧ p + 1 < sz' ∧ b' / 64 = 2 ∧ p + 2 < sz' ∧ c' / 64 = 2
  · rw [if_pos c3] at h hr ⊢
    split at hr
    · rename_i v
      dsimp only at hr
      have eb := hb (by omega)
      have ec := hc (by omega)
      subst eb ec
      rw [if_pos ⟨c3.1, by omega, c3.2.2.1, by omega, c3.2.2.2.2⟩]
    · rename_i v
      rw [if_neg v] at h; exact absurd rfl h
  rw [if_neg c3] at h hr ⊢
  rw [if_neg (show ¬ (a / 16 = 14 ∧ p + 1 < sz ∧ b / 64 = 2 ∧ p + 2 < sz ∧ c / 64 = 2) from fun ⟨x, y, z, u, v⟩ => c3 ⟨x, by omega, by rw [hb y]; exact z, by omega, by rw [hc u]; exact v⟩)]
  by_cases c4 : a / 8 = 30 ∧ p + 1 < sz' ∧ b' / 64 = 2 ∧ p + 2 < sz' ∧ c' / 64 = 2 ∧ p + 3 < sz' ∧ d' / 64 = 2
  · rw [if_pos c4] at h hr ⊢
    split at hr
    · rename_i v
      dsimp only at hr
      have eb := hb (by omega)
      have ec := hc (by omega)
      have ed := hd (by omega)
      subst eb ec ed
      rw [if_pos ⟨c4.1, by omega, c4.2.2.1, by omega, c4.2.2.2.2.1, by omega, c4.2.2.2.2.2.2⟩]
    · rename_i v
      rw [if_neg v] at h; exact absurd rfl h
  rw [if_neg c4] at h
  exact absurd rfl h
theorem decode_more {w x : ByteArray} {p : Nat} (hp : p < w.size) (h : (Utf8.decode w p).1 ≠ 65533) : Utf8.decode (w ++ x) p = Utf8.decode w p := by
  rw [decode_eq] at h ⊢
  rw [decode_eq, bt_left hp]
  exact dec_up (by rw [app_size]; omega) (fun h => bt_left h) (fun h => bt_left h) (fun h => bt_left h) h
theorem decode_cut {w x : ByteArray} {p : Nat} (hp : p < w.size) (h : (Utf8.decode (w ++ x) p).1 ≠ 65533) (hr : p + (Utf8.decode (w ++ x) p).2 ≤ w.size) : Utf8.decode w p = Utf8.decode (w ++ x) p := by
  rw [decode_eq, bt_left hp] at h hr
  rw [decode_eq, decode_eq (w ++ x), bt_left hp]
  exact dec_cut (by rw [app_size]; omega) (fun h => bt_left h) (fun h => bt_left h) (fun h => bt_left h) h hr
theorem plain_ne {s : ByteArray} {p : Nat} (h : plainB s p = true) : (Utf8.decode s p).1 ≠ 65533 := fun e => by
  unfold plainB at h
  rw [e] at h
  exact absurd h (by decide)
theorem rowV_cut {w x : ByteArray} : ∀ (n p : Nat), w.size ≤ p + n → p ≤ w.size → rowV (w ++ x) p = w.size → rowV w p = w.size
  | n, p, h, hp, e => by
    by_cases hl : p < w.size
    · match n with
      | 0 => omega
      | n + 1 =>
        have hl2 : p < (w ++ x).size := by rw [app_size]; omega
        have h1 := (decode_pos (w ++ x) p).1
        rw [rowV_step hl2] at e
        split at e
        · rename_i hb
          have hle := decode_room hl2
          have hr := (rowV_le (w ++ x) (w ++ x).size (p + (Utf8.decode (w ++ x) p).2) (by omega) hle).1
          have ed := decode_cut hl (plain_ne hb) (by omega)
          have hb' : plainB w p = true := by
            unfold plainB at hb ⊢
            rw [ed]; exact hb
          rw [rowV_step hl, if_pos hb', ed]
          exact rowV_cut n _ (by omega) (by omega) e
        · omega
    · rw [rowV_end (by omega)]; omega
theorem plain_blank {w x : ByteArray} (h : bt x 0 = 32) : plainB (w ++ x) w.size = false := by
  have eb : bt (w ++ x) w.size = 32 := by have := bt_right w x 0; rw [Nat.add_zero] at this; rw [this, h]
  unfold plainB
  rw [decode_ascii (by omega), eb]
  decide
theorem rowV_more {w x : ByteArray} (h32 : bt x 0 = 32) (hx : 0 < x.size) : ∀ (n p : Nat), w.size ≤ p + n → p ≤ w.size → rowV w p = w.size → rowV (w ++ x) p = w.size
  | n, p, h, hp, e => by
    have hz : w.size < (w ++ x).size := by rw [app_size]; omega
    by_cases hl : p < w.size
    · match n with
      | 0 => omega
      | n + 1 =>
        have h1 := (decode_pos w p).1
        have hle := decode_room hl
        rw [rowV_step hl] at e
        split at e
        · rename_i hb
          have ed := decode_more (x := x) hl (plain_ne hb)
          have hb' : plainB (w ++ x) p = true := by
            unfold plainB at hb ⊢
            rw [ed]; exact hb
          rw [rowV_step (by omega), if_pos hb', ed]
          exact rowV_more h32 hx n _ (by omega) hle e
        · omega
    · obtain rfl : p = w.size := by omega
      rw [rowV_step hz, plain_blank h32]
      rfl
/-- Bytes that are one token by themselves. -/
def Pc (k : Int) (w : ByteArray) : Prop := 0 < w.size ∧ stopB false (bt w 0) = true ∧ bt w 0 ≠ 35 ∧ (signB (bt w 0) = true ∧ w.size = 1 ∧ k = 4 ∨ signB (bt w 0) = false ∧ pieceEnd w 0 = w.size ∧ kindOf w = k ∧ k ≠ 0)
theorem split3 (s : ByteArray) {p q : Nat} (h1 : p ≤ q) (h2 : q ≤ s.size) : s = s.extract 0 p ++ (s.extract p q ++ s.extract q s.size) := by
  refine ba_inj ?_
  rw [size_list] at h2
  rw [app_data, app_data, ex_data, ex_data, ex_data, size_list, List.drop_zero, Nat.sub_zero, List.take_of_length_le (l := s.data.toList.drop q) (by rw [List.length_drop]; omega)]
  have e1 : s.data.toList.drop q = (s.data.toList.drop p).drop (q - p) := by rw [List.drop_drop, Nat.add_sub_cancel' h1]
  rw [e1, List.take_append_drop, List.take_append_drop]
theorem ex_size2 (s : ByteArray) {p q : Nat} (h2 : q ≤ s.size) : (s.extract p q).size = q - p := by
  rw [ByteArray.size_extract, Nat.min_eq_left h2]
theorem bt_ex (s : ByteArray) {p q : Nat} (h : p < q) : bt (s.extract p q) 0 = bt s p := by
  have e1 := sb_bt (s.extract p q) 0
  have e2 := sb_bt s p
  unfold sb at e1 e2
  rw [ex_data, List.getD_eq_getElem?_getD, List.getElem?_take, if_pos (by omega), List.getElem?_drop, Nat.add_zero, ← List.getD_eq_getElem?_getD, e2] at e1
  omega
theorem digAt_lt {s : ByteArray} {p : Nat} (h : digAt s p = true) : p < s.size ∧ 48 ≤ bt s p ∧ bt s p ≤ 57 := by
  unfold digAt at h
  simpa using h
theorem dig_plain {s : ByteArray} {p : Nat} (h : digAt s p = true) : plainB s p = true ∧ (Utf8.decode s p).2 = 1 := by
  obtain ⟨h1, h2, h3⟩ := digAt_lt h
  unfold plainB
  rw [decode_ascii (by omega)]
  refine ⟨?_, rfl⟩
  unfold letB digB
  rw [decide_eq_true (show (48 : Int) ≤ (bt s p : Int) by omega), decide_eq_true (show (bt s p : Int) ≤ 57 by omega)]
  simp
theorem pieceEnd_cut {w x : ByteArray} (hw : 0 < w.size) (h : pieceEnd (w ++ x) 0 = w.size) : pieceEnd w 0 = w.size := by
  unfold pieceEnd at h ⊢
  rw [bt_left hw] at h
  by_cases c : bt w 0 = 45 ∧ digAt (w ++ x) (0 + 1) = true
  · rw [if_pos c] at h
    obtain ⟨d1, d2, d3⟩ := digAt_lt c.2
    have h1 : 1 < w.size := by
      rcases Nat.lt_or_ge 1 w.size with h1 | h1
      · exact h1
      · obtain ⟨p1, p2⟩ := dig_plain c.2
        rw [rowV_step d1, if_pos p1, p2] at h
        have := (rowV_le (w ++ x) (w ++ x).size (0 + 1 + 1) (by omega) (by omega)).1
        omega
    have hd : digAt w (0 + 1) = true := by
      have := c.2
      unfold digAt at this ⊢
      rw [bt_left h1] at this
      rw [decide_eq_true (show 0 + 1 < w.size from h1)]
      simpa using (by simpa using this : _ ∧ _ ∧ _).2
    rw [if_pos ⟨c.1, hd⟩]
    exact rowV_cut w.size _ (by omega) (by omega) h
  · rw [if_neg c] at h
    rw [if_neg (fun hc => c ⟨hc.1, ?_⟩)]
    · exact rowV_cut w.size _ (by omega) (by omega) h
    · obtain ⟨d1, d2, d3⟩ := digAt_lt hc.2
      unfold digAt
      rw [bt_left d1, decide_eq_true (show 0 + 1 < (w ++ x).size by rw [app_size]; omega), decide_eq_true d2, decide_eq_true d3]
      rfl
theorem pieceEnd_more {w x : ByteArray} (hw : 0 < w.size) (h32 : bt x 0 = 32) (hx : 0 < x.size) (h : pieceEnd w 0 = w.size) : pieceEnd (w ++ x) 0 = w.size := by
  unfold pieceEnd at h ⊢
  rw [bt_left hw]
  by_cases c : bt w 0 = 45 ∧ digAt w (0 + 1) = true
  · rw [if_pos c] at h
    obtain ⟨d1, d2, d3⟩ := digAt_lt c.2
    rw [if_pos ⟨c.1, by
      unfold digAt
      rw [bt_left d1, decide_eq_true (show 0 + 1 < (w ++ x).size by rw [app_size]; omega), decide_eq_true d2, decide_eq_true d3]
      rfl⟩]
    exact rowV_more h32 hx w.size _ (by omega) (by omega) h
  · rw [if_neg c] at h
    rw [if_neg (fun hc => c ⟨hc.1, ?_⟩)]
    · exact rowV_more h32 hx w.size _ (by omega) (by omega) h
    · obtain ⟨d1, d2, d3⟩ := digAt_lt hc.2
      have h1 : 1 < w.size := by
        rcases Nat.lt_or_ge 1 w.size with h1 | h1
        · exact h1
        · have e : w.size = 0 + 1 := by omega
          have := bt_right w x 0
          rw [Nat.add_zero, e, h32] at this
          omega
      rw [bt_left h1] at d2 d3
      unfold digAt
      rw [decide_eq_true (show 0 + 1 < w.size from h1), decide_eq_true d2, decide_eq_true d3]
      rfl
theorem pc_of {s : ByteArray} {a : Nat} {t : Tok} (ha : a ≤ s.size) (h : oneN s a = (t, 0, 0)) : Pc t.k (s.extract t.f.toNat t.t.toNat) := by
  obtain ⟨h1, h2, h3⟩ := skV_le s s.size false a (by omega) ha
  obtain ⟨p, hp⟩ : ∃ p, skV s false a = p := ⟨_, rfl⟩
  rw [hp] at h1 h2 h3
  by_cases e : p = s.size
  · rw [oneN_none hp e] at h
    exact absurd (congrArg (fun r => r.2.2) h) (show ¬ ((4 : Int) = 0) by decide)
  obtain ⟨g1, g2⟩ := h3 (by omega)
  cases hs : signB (bt s p) with
  | true =>
    rw [oneN_sign hp e hs] at h
    obtain rfl := (Prod.mk.inj h).1
    show Pc 4 (s.extract ((p : Int)).toNat ((p : Int) + 1).toNat)
    rw [show ((p : Int)).toNat = p by omega, show ((p : Int) + 1).toNat = p + 1 by omega]
    have z2 := ex_size2 s (p := p) (q := p + 1) (by omega)
    rw [← bt_ex s (show p < p + 1 by omega)] at g1 g2 hs
    exact ⟨by omega, g1, g2, .inl ⟨hs, by omega, rfl⟩⟩
  | false =>
    by_cases hk : kindOf (s.extract p (pieceEnd s p)) = 0
    · rw [oneN_bad hp e hs hk] at h
      exact absurd (congrArg (fun r => r.2.2) h) (show ¬ ((6 : Int) = 0) by decide)
    rw [oneN_ok hp e hs hk] at h
    obtain rfl := (Prod.mk.inj h).1
    obtain ⟨q, hq⟩ : ∃ q, pieceEnd s p = q := ⟨_, rfl⟩
    have h4 := kind_piece hk
    have h5 := pieceEnd_le (s := s) (p := p) (by omega)
    rw [hq] at h4 h5 hk ⊢
    show Pc (kindOf (s.extract p q)) (s.extract ((p : Int)).toNat ((q : Int)).toNat)
    rw [show ((p : Int)).toNat = p by omega, show ((q : Int)).toNat = q by omega]
    have sp := split3 s (show p ≤ q by omega) h5.2
    have z1 := ex_size2 s (p := 0) (q := p) (by omega)
    have z2 := ex_size2 s (p := p) (q := q) h5.2
    have ep : pieceEnd (s.extract p q ++ s.extract q s.size) 0 = (s.extract p q).size := by
      have := pieceEnd_shift (s.extract 0 p) (s.extract p q ++ s.extract q s.size) 0
      rw [← sp, z1, show p - 0 + 0 = p by omega, hq] at this
      omega
    rw [← bt_ex s h4] at g1 g2 hs
    exact ⟨by omega, g1, g2, .inr ⟨hs, pieceEnd_cut (by omega) ep, rfl, hk⟩⟩
theorem one_pc {k : Int} {w x : ByteArray} (h : Pc k w) (h32 : bt x 0 = 32) (hx : 0 < x.size) : oneN (w ++ x) 0 = (⟨k, 0, (w.size : Int)⟩, 0, 0) := by
  obtain ⟨h1, h2, h3, h4⟩ := h
  have hz : 0 < (w ++ x).size := by rw [app_size]; omega
  have hsz : (w ++ x).size ≠ 0 := by omega
  have eb : bt (w ++ x) 0 = bt w 0 := bt_left h1
  have hsk : skV (w ++ x) false 0 = 0 := skV_stop hz (by
    rw [eb]
    unfold nextR
    rw [if_neg h3]
    split <;> exact h2)
  rcases h4 with ⟨a1, a2, rfl⟩ | ⟨a1, a2, a3, a4⟩
  · rw [oneN_sign hsk (by omega) (by rw [eb]; exact a1), a2]
    rfl
  · have ep := pieceEnd_more h1 h32 hx a2
    have ee : (w ++ x).extract 0 w.size = w := by
      refine ba_inj ?_
      rw [ex_data, app_data, size_list]
      simp
    rw [oneN_ok hsk (by omega) (by rw [eb]; exact a1) (by rw [ep, ee, a3]; exact a4), ep, ee, a3]
    rfl
/-- What stands behind each token: a blank, a remark and a line's end. -/
def rem : ByteArray := ⟨#[32, 35, 32, 114, 101, 109, 97, 114, 107, 10]⟩
theorem rem_bt (y : ByteArray) {i : Nat} (hi : i < 10) : bt (rem ++ y) i = bt rem i := bt_left hi
theorem rem_size (y : ByteArray) : (rem ++ y).size = y.size + 10 := by rw [app_size]; show 10 + y.size = _; omega
theorem rem_skip (y : ByteArray) : skV (rem ++ y) false 0 = skV (rem ++ y) false 10 := by
  have hz := rem_size y
  rw [skV_go (by omega) (by rw [rem_bt y (by decide)]; decide +kernel), show nextR (bt (rem ++ y) 0) false = false by rw [rem_bt y (by decide)]; decide +kernel]
  rw [skV_go (by omega) (by rw [rem_bt y (by decide)]; decide +kernel), show nextR (bt (rem ++ y) (0 + 1)) false = true by rw [rem_bt y (by decide)]; decide +kernel]
  refine skV_remark (rem ++ y) 7 2 (by omega) (by rw [rem_bt y (by decide)]; decide +kernel) fun j hj => ?_
  rw [rem_bt y (by omega)]
  have : ∀ j, j < 7 → bt rem (2 + j) ≠ 10 := by decide +kernel
  exact this j hj
theorem run_skip {s : ByteArray} {a b : Nat} (h : skV s false a = skV s false b) (hab : a ≤ b) : ∀ {l : List Tok} {r : Int × Int}, Run s b l r → Run s a l r
  | [], r, ⟨h1, h2⟩ => ⟨by unfold oneN at h1 ⊢; rw [h]; exact h1, h2⟩
  | t :: l, r, ⟨h1, h2, h3⟩ => ⟨by unfold oneN at h1 ⊢; rw [h]; exact h1, by omega, h3⟩
/-- The tokens l of s, each with a remark behind. -/
def spc (s : ByteArray) : List Tok → ByteArray
  | [] => .empty
  | t :: l => s.extract t.f.toNat t.t.toNat ++ (rem ++ spc s l)
theorem spc_app (s : ByteArray) : ∀ (l m : List Tok), spc s (l ++ m) = spc s l ++ spc s m
  | [], m => ba_inj (by rw [app_data]; rfl)
  | t :: l, m => by
    show _ ++ (rem ++ spc s (l ++ m)) = _ ++ (rem ++ spc s l) ++ spc s m
    rw [spc_app s l m, app_assoc, app_assoc]
def tx (s : ByteArray) (t : Tok) : Int × ByteArray := (t.k, s.extract t.f.toNat t.t.toNat)
theorem run_tx (c y : ByteArray) : ∀ {m : List Tok} {q : Nat} {r : Int × Int}, Run y q m r → (m.map (shT c.size)).map (tx (c ++ y)) = m.map (tx y)
  | [], _, _, _ => rfl
  | t :: m, q, r, ⟨h1, h2, h3, h4, h5⟩ => by
    rw [List.map_cons, List.map_cons, List.map_cons, run_tx c y h5]
    congr 1
    show (t.k, (c ++ y).extract (t.f + (c.size : Int)).toNat (t.t + (c.size : Int)).toNat) = (t.k, y.extract t.f.toNat t.t.toNat)
    rw [show (t.f + (c.size : Int)).toNat = c.size + t.f.toNat by omega, show (t.t + (c.size : Int)).toNat = c.size + t.t.toNat by omega, ex_right]
theorem spc_run {s : ByteArray} : ∀ {l : List Tok} {a : Nat} {r : Int × Int}, Run s a l r → a ≤ s.size → ∃ l', Run (spc s l) 0 l' ((spc s l).size, 4) ∧ l'.map (tx (spc s l)) = l.map (tx s)
  | [], a, r, h, ha => ⟨[], ⟨by rw [show spc s [] = ByteArray.empty from rfl]; decide +kernel, show ¬ ((4 : Int) = 0) by decide⟩, rfl⟩
  | t :: l, a, r, ⟨h1, h2, h3, h4, h5⟩, ha => by
    obtain ⟨l', g1, g2⟩ := spc_run h5 (by omega)
    obtain ⟨w, hw⟩ : ∃ w, s.extract t.f.toNat t.t.toNat = w := ⟨_, rfl⟩
    obtain ⟨y, hy⟩ : ∃ y, spc s l = y := ⟨_, rfl⟩
    have hp := pc_of ha h1
    rw [hw] at hp
    have hz := rem_size y
    have o := one_pc (x := rem ++ y) hp (by rw [rem_bt y (by decide)]; decide +kernel) (by omega)
    have hsp : spc s (t :: l) = w ++ (rem ++ y) := by show _ ++ (rem ++ spc s l) = _; rw [hw, hy]
    rw [hy] at g1 g2
    have hws : (w ++ rem).size = w.size + 10 := app_size w rem
    have r1 := run_shift (w ++ rem) y g1 (Nat.zero_le _)
    rw [app_assoc, hws] at r1
    have r1 : Run (w ++ (rem ++ y)) (w.size + 10) (l'.map (shT (w.size + 10))) (((w ++ (rem ++ y)).size : Nat), 4) := by
      have e : ((y.size : Int) + ((w.size + 10 : Nat) : Int)) = ((w ++ (rem ++ y)).size : Nat) := by rw [app_size, hz]; omega
      rw [← e]; exact r1
    have r2 := run_skip (a := w.size) (by
      have e1 := skV_shift w (rem ++ y) (rem ++ y).size false 0 (by omega)
      have e2 := skV_shift w (rem ++ y) (rem ++ y).size false 10 (by omega)
      rw [Nat.add_zero] at e1
      rw [e1, e2, rem_skip]) (by omega) r1
    have t1 := run_tx (w ++ rem) y g1
    rw [app_assoc, hws] at t1
    refine ⟨⟨t.k, 0, (w.size : Int)⟩ :: l'.map (shT (w.size + 10)), ?_, ?_⟩
    · rw [hsp]
      refine ⟨o, Int.le_refl _, by have := hp.1; show (0 : Int) < w.size; omega, by show (w.size : Int) ≤ _; rw [app_size]; omega, r2⟩
    · rw [hsp, List.map_cons, List.map_cons, t1, g2]
      congr 1
      show (t.k, (w ++ (rem ++ y)).extract (0 : Int).toNat (w.size : Int).toNat) = (t.k, s.extract t.f.toNat t.t.toNat)
      rw [hw, show (0 : Int).toNat = 0 from rfl, show (w.size : Int).toNat = w.size by omega]
      congr 1
      refine ba_inj ?_
      rw [ex_data, app_data, size_list]
      simp
theorem spc_size {s : ByteArray} : ∀ {l : List Tok} {a : Nat} {r : Int × Int}, Run s a l r → a ≤ s.size → a + (spc s l).size ≤ s.size + 10 * l.length
  | [], a, r, h, ha => by show a + 0 ≤ _; omega
  | t :: l, a, r, ⟨h1, h2, h3, h4, h5⟩, ha => by
    have := spc_size h5 (by omega)
    show a + (s.extract t.f.toNat t.t.toNat ++ (rem ++ spc s l)).size ≤ _
    rw [app_size, rem_size, ex_size2 s (by omega), List.length_cons]
    omega
/-! ### they are a text -/
theorem bad_go {s : ByteArray} {p : Nat} (hp : p < s.size) (hd : (Utf8.decode s p).1 ≠ 65533) (h : badV s s.size ((p + (Utf8.decode s p).2 : Nat) : Int) = -1) : badV s s.size (p : Int) = -1 := by
  have h1 := (decode_pos s p).1
  have hne : ¬ (formV s (p : Int)).2 = 0 := fun e => hd ((form_zero hp).1 e).1
  rw [badV_fuel s s.size (s.size - 1 + 1) p (by omega) (by omega), badV, if_pos (by omega), if_neg hne, form_go hp hne, badV_fuel s (s.size - 1) s.size _ (by omega) (by omega)]
  exact h
theorem bad_ascii {s : ByteArray} {p : Nat} (hp : p < s.size) (hb : bt s p < 128) (h : badV s s.size ((p + 1 : Nat) : Int) = -1) : badV s s.size (p : Int) = -1 := by
  have hd := decode_ascii hb
  refine bad_go hp (by rw [hd]; show bt s p ≠ 65533; omega) ?_
  rw [hd]; exact h
theorem bad_row {w x : ByteArray} : ∀ (n p : Nat), w.size ≤ p + n → p ≤ w.size → rowV w p = w.size → badV (w ++ x) (w ++ x).size (w.size : Int) = -1 → badV (w ++ x) (w ++ x).size (p : Int) = -1
  | n, p, h, hp, e, hb => by
    by_cases hl : p < w.size
    · match n with
      | 0 => omega
      | n + 1 =>
        have h1 := (decode_pos w p).1
        have hle := decode_room hl
        rw [rowV_step hl] at e
        split at e
        · rename_i hpl
          have ed := decode_more (x := x) hl (plain_ne hpl)
          refine bad_go (by rw [app_size]; omega) (by rw [ed]; exact plain_ne hpl) ?_
          rw [ed]
          exact bad_row n _ (by omega) hle e hb
        · omega
    · obtain rfl : p = w.size := by omega
      exact hb
theorem bad_rem (y : ByteArray) (h : badV y y.size 0 = -1) : badV (rem ++ y) (rem ++ y).size 0 = -1 := by
  have hz := rem_size y
  have h2 := badV_shift rem y y.size 0 (by omega)
  rw [show ((0 : Nat) : Int) = 0 from rfl, if_pos h] at h2
  have ha : ∀ i, i < 10 → bt rem i < 128 := by decide +kernel
  have step : ∀ i, i < 10 → badV (rem ++ y) (rem ++ y).size ((i + 1 : Nat) : Int) = -1 → badV (rem ++ y) (rem ++ y).size (i : Int) = -1 := fun i hi hb =>
    bad_ascii (by omega) (by rw [rem_bt y hi]; exact ha i hi) hb
  exact step 0 (by omega) (step 1 (by omega) (step 2 (by omega) (step 3 (by omega) (step 4 (by omega) (step 5 (by omega) (step 6 (by omega) (step 7 (by omega) (step 8 (by omega) (step 9 (by omega) h2)))))))))
theorem bad_pc {k : Int} {w x : ByteArray} (h : Pc k w) (hb : badV x x.size 0 = -1) : badV (w ++ x) (w ++ x).size 0 = -1 := by
  obtain ⟨h1, h2, h3, h4⟩ := h
  have hx := badV_shift w x x.size 0 (by omega)
  rw [show ((0 : Nat) : Int) = 0 from rfl, if_pos hb, Nat.add_zero] at hx
  have hz : 0 < (w ++ x).size := by rw [app_size]; omega
  rcases h4 with ⟨a1, a2, _⟩ | ⟨a1, a2, a3, a4⟩
  · have ha : ∀ n, n < 256 → signB n = true → n < 128 := by decide +kernel
    refine bad_ascii (p := 0) hz (by rw [bt_left h1]; exact ha _ (bt_lt _ _) a1) ?_
    rw [show 0 + 1 = w.size from a2.symm]
    exact hx
  · unfold pieceEnd at a2
    split at a2
    · rename_i c
      refine bad_ascii (p := 0) hz (by rw [bt_left h1, c.1]; omega) ?_
      exact bad_row w.size (0 + 1) (by omega) (by omega) a2 hx
    · exact bad_row w.size 0 (by omega) (by omega) a2 hx
theorem spc_bad {s : ByteArray} : ∀ {l : List Tok} {a : Nat} {r : Int × Int}, Run s a l r → a ≤ s.size → badV (spc s l) (spc s l).size 0 = -1
  | [], a, r, h, ha => badV_end (by show ¬ (0 : Int) < ((ByteArray.empty.size : Nat) : Int); decide)
  | t :: l, a, r, ⟨h1, h2, h3, h4, h5⟩, ha => bad_pc (pc_of ha h1) (bad_rem _ (spc_bad h5 (by omega)))
/-- The tokens of a text that has such. -/
theorem all_run {s : ByteArray} (h : (allV s).2.2 = 0) : s.size ≤ 65536 ∧ badV s s.size 0 = -1 ∧ ∃ r, r.2 = 4 ∧ Run s 0 (allV s).1 r := by
  by_cases hs : s.size ≤ 65536
  rotate_left
  · unfold allV at h
    rw [if_pos (by omega)] at h
    exact absurd h (show ¬ ((2 : Int) = 0) by decide)
  refine ⟨hs, ?_⟩
  rcases bad_cases s with hb | hb
  · refine ⟨hb, ?_⟩
    obtain ⟨l, r, hr⟩ := run_ex s s.size 0 (by omega) (Nat.zero_le _)
    have e := allV_run hs hb hr
    by_cases h4 : r.2 = 4
    · rw [if_pos h4] at e
      rw [e]
      exact ⟨r, h4, hr⟩
    · rw [if_neg h4] at e
      rw [e] at h
      have := run_end hr (Nat.zero_le _)
      have h : r.2 = 0 := h
      omega
  · rw [allV_bad hs hb.1] at h
    exact absurd h (show ¬ ((5 : Int) = 0) by decide)
theorem sim_of {s : ByteArray} {l : List Tok} {s' : ByteArray} {l' : List Tok} (h : l'.map (tx s') = l.map (tx s)) : Sim s l s' l' 0 := by
  have hlen : l'.length = l.length := by have := congrArg List.length h; simpa using this
  have hg : ∀ n, n < l.length → tx s' (l'.getD n tok0) = tx s (l.getD n tok0) := fun n hn => by
    have := congrArg (fun l => l[n]?) h
    simp only [List.getElem?_map] at this
    rw [List.getD_eq_getElem?_getD, List.getD_eq_getElem?_getD]
    rw [List.getElem?_eq_getElem (by omega), List.getElem?_eq_getElem hn] at this ⊢
    exact Option.some.inj this
  refine ⟨by omega, fun n k => ?_, fun n => ?_⟩
  · unfold isV
    rw [Nat.zero_add, hlen]
    by_cases hn : n < l.length
    · rw [show (l'.getD n tok0).k = (l.getD n tok0).k from congrArg Prod.fst (hg n hn)]
    · rw [decide_eq_false hn]; rfl
  · unfold txV
    rw [Nat.zero_add, hlen]
    by_cases hn : n < l.length
    · rw [if_pos hn, if_pos hn]
      exact congrArg Prod.snd (hg n hn)
    · rw [if_neg hn, if_neg hn]
/-- The plain law of TreeSpaces. -/
theorem spaces_plain {s : ByteArray} (hs : s.size ≤ 2000) (h : (allV s).2.2 = 0) :
    (spc s (allV s).1).size ≤ 65536 ∧ (parseV s).2.2 = (parseV (spc s (allV s).1)).2.2 ∧ sameB (parseV s).1 (parseV (spc s (allV s).1)).1 false = true := by
  obtain ⟨_, hb, r, hr4, hr⟩ := all_run h
  have hl := all_len s
  have hz := spc_size hr (Nat.zero_le _)
  obtain ⟨l', g1, g2⟩ := spc_run hr (Nat.zero_le _)
  have e := allV_run (s := spc s (allV s).1) (by omega) (spc_bad hr (Nat.zero_le _)) g1
  rw [if_pos rfl] at e
  refine ⟨by omega, ?_⟩
  refine parse_sim h (by rw [e]) ?_
  rw [e]
  exact sim_of g2
end Go.Proofs.YtikkppdihepmdaaDoor

/- An error has a number. -/
namespace Go.Proofs.YtikkppdihepmdaaDoor
open Go.Sx
set_option linter.unusedVariables false
set_option linter.unusedSimpArgs false
set_option maxRecDepth 100000

def Nz {α : Type} (r : Except (Int × Int) (Nat × α)) : Prop := ∀ e, r = .error e → e.2 ≠ 0
section
variable {s : ByteArray} {l : List Tok} {α β : Type}
theorem nz_ok {p : Nat × α} : Nz (.ok p) := fun e h => by cases h
theorem nz_err {a k : Int} (hk : k ≠ 0) : Nz (α := α) (.error (a, k)) := fun e h => by
  obtain rfl := Except.error.inj h
  exact hk
theorem nz_bnd {r : Except (Int × Int) (Nat × α)} {k : Nat → α → Except (Int × Int) (Nat × β)} (h1 : Nz r) (h2 : ∀ n a, r = .ok (n, a) → Nz (k n a)) : Nz (bnd r k) := by
  rcases r with e | ⟨n, a⟩
  · exact fun e' h => h1 e' (by obtain rfl := Except.error.inj h; rfl)
  · exact h2 n a rfl
theorem nz_nm {n : Nat} : Nz (nmV s l n) := by
  unfold nmV
  split
  · exact nz_ok
  · exact nz_err (by decide)
theorem nz_need {n : Nat} {b : UInt8} : Nz (needV s l n b) := by
  unfold needV
  split
  · exact nz_ok
  · exact nz_err (by decide)
theorem nz_close {b : UInt8} {r : Except (Int × Int) (Nat × α)} (h : Nz r) : Nz (closeV s l b r) := by
  rw [closeV_bnd]
  exact nz_bnd h fun n x _ => nz_bnd nz_need fun n _ _ => nz_ok
theorem nz_namesF : ∀ (f n k : Nat) (o : List ByteArray), l.length + 1 ≤ f + n → n ≤ l.length → Nz (namesF s l f n k o)
  | 0, n, k, o, h, hn => by omega
  | f + 1, n, k, o, h, hn => by
    rw [namesF]
    split
    · split
      · exact nz_err (by decide)
      · split
        · rename_i hc
          have := tx_lt hc
          exact nz_namesF f _ _ _ (by omega) (by omega)
        · exact nz_ok
    · exact nz_err (by decide)
theorem nz_names {n : Nat} : Nz (namesV s l n) := by
  unfold namesV
  split
  · rename_i h
    have := tx_lt h
    split
    · exact nz_ok
    · exact nz_close (nz_namesF _ _ _ _ (by omega) (by omega))
  · exact nz_err (by decide)
theorem nz_arg {n : Nat} {x : Ins} : Nz (argV s l n x) := nz_bnd nz_nm fun _ _ _ => nz_ok
theorem nz_one {n : Nat} {x : Ins} : Nz (oneV7 s l n x) := nz_bnd nz_nm fun _ _ _ => nz_ok
theorem nz_ref {n : Nat} {x : Ins} : Nz (refV s l n x) := nz_bnd nz_nm fun _ _ _ => nz_ok
theorem nz_pair {n : Nat} {x : Ins} : Nz (pairV s l n x) := nz_bnd nz_nm fun _ _ _ => nz_bnd nz_need fun _ _ _ => nz_bnd nz_nm fun _ _ _ => nz_ok
theorem nz_pairsF : ∀ (f n k : Nat) (x : Ins), l.length + 1 ≤ f + n → n ≤ l.length → Nz (pairsF s l f n k x)
  | 0, n, k, o, h, hn => by omega
  | f + 1, n, k, o, h, hn => by
    rw [pairsF]
    split
    · exact nz_err (by decide)
    · refine nz_bnd nz_pair fun n1 y e => ?_
      have hp := pairV_ok e
      split
      · rename_i hc
        have := tx_lt hc
        exact nz_pairsF f _ _ _ (by omega) (by omega)
      · exact nz_ok
theorem nz_word {n : Nat} {x : Ins} {w : List UInt8} : Nz (wordV s l n x w) := by
  unfold wordV
  split
  · unfold constV; split
    · exact nz_ok
    · exact nz_err (by decide)
  split
  · exact nz_bnd nz_ref fun _ _ _ => nz_one
  split
  · exact nz_bnd nz_ref fun _ _ _ => nz_one
  split
  · exact nz_ref
  split
  · exact nz_bnd nz_ref fun _ _ _ => nz_bnd nz_names fun _ _ _ => nz_ok
  split
  · exact nz_bnd nz_one fun _ _ _ => nz_ref
  split
  · refine nz_bnd nz_need fun n1 _ e => nz_close (nz_pairsF _ _ _ _ (by omega) (need_up _ _ e).2)
  · exact nz_err (by decide)
theorem nz_value {n : Nat} {x : Ins} : Nz (valueV s l n x) := by
  unfold valueV
  split
  · exact nz_bnd nz_arg fun _ _ _ => nz_arg
  · exact nz_word
theorem nz_act {w : List UInt8} {f : Nat → Ins → Except (Int × Int) (Nat × Ins)} (hf : actV s l w = some f) {n : Nat} {x : Ins} : Nz (f n x) := by
  unfold actV at hf
  split at hf
  · obtain rfl := Option.some.inj hf
    exact nz_bnd nz_nm fun _ _ _ => nz_bnd nz_arg fun _ _ _ => nz_bnd nz_arg fun _ _ _ => nz_ok
  split at hf
  · obtain rfl := Option.some.inj hf
    exact nz_bnd nz_nm fun _ _ _ => nz_bnd nz_arg fun _ _ _ => nz_ok
  split at hf
  · obtain rfl := Option.some.inj hf
    exact nz_bnd nz_nm fun _ _ _ => nz_ok
  split at hf
  · obtain rfl := Option.some.inj hf
    exact nz_bnd nz_arg fun _ _ _ => nz_bnd nz_nm fun _ _ _ => nz_bnd nz_nm fun _ _ _ => nz_ok
  split at hf
  · obtain rfl := Option.some.inj hf
    exact nz_bnd nz_arg fun _ _ _ => nz_ok
  · cases hf
theorem nz_instr {n c : Nat} : Nz (instrV s l n c) := by
  unfold instrV
  split
  · exact nz_err (by decide)
  split
  · exact nz_err (by decide)
  split
  · exact nz_err (by decide)
  split
  · rename_i f hf
    exact nz_act hf
  · exact nz_bnd nz_nm fun _ _ _ => nz_bnd nz_need fun _ _ _ => nz_value
theorem nz_code : ∀ (f n c : Nat) (xs : List Ins), 4098 ≤ f + c → c ≤ 4096 → Nz (codeF s l f n c xs)
  | 0, n, c, xs, h, hc => by omega
  | f + 1, n, c, xs, h, hc => by
    rw [codeF]
    split
    · exact nz_ok
    · refine nz_bnd nz_instr fun n1 y e => ?_
      have := instr_c e
      exact nz_code f _ _ _ (by omega) (by omega)
theorem nz_block {n c : Nat} (hc : c ≤ 4096) : Nz (blockV s l n c) := by
  rw [blockV_bnd]
  exact nz_bnd nz_nm fun _ _ _ => nz_bnd nz_need fun _ _ _ => nz_bnd (nz_code _ _ _ _ (by omega) hc) fun _ _ _ => nz_ok
theorem nz_blocks : ∀ (f n c : Nat) (bs : List Blk), 66 ≤ f + bs.length → bs.length ≤ 64 → c ≤ 4096 → Nz (blocksF s l f n c bs)
  | 0, n, c, bs, h, hb, hc => by omega
  | f + 1, n, c, bs, h, hb, hc => by
    rw [blocksF]
    split
    · split
      · exact nz_err (by decide)
      · refine nz_bnd (nz_block hc) fun n1 y e => ?_
        exact nz_blocks f _ _ _ (by rw [List.length_append]; simp only [List.length_cons, List.length_nil]; omega) (by rw [List.length_append]; simp only [List.length_cons, List.length_nil]; omega) (block_up hc e).2.2
    · exact nz_ok
theorem nz_func {n c : Nat} (hc : c ≤ 4096) : Nz (funcV s l n c) := by
  rw [funcV_bnd]
  refine nz_bnd nz_nm fun _ _ _ => nz_bnd nz_names fun _ _ _ => nz_bnd nz_need fun _ _ _ => nz_bnd (nz_block hc) fun n4 r e => ?_
  exact nz_bnd (nz_blocks _ _ _ _ (by simp) (by simp) (block_up hc e).2.2) fun _ _ _ => nz_bnd nz_need fun _ _ _ => nz_ok
theorem nz_arr {n : Nat} : Nz (arrV s l n) := by
  unfold arrV
  refine nz_bnd nz_nm fun n1 nm _ => ?_
  split
  · split
    · exact nz_err (by decide)
    · exact nz_bnd nz_nm fun _ _ _ => nz_ok
  · exact nz_err (by decide)
theorem nz_prog : ∀ (f n c : Nat) (p : Prg), l.length + 1 ≤ f + n → n ≤ l.length → c ≤ 4096 → Nz (progF s l f n c p)
  | 0, n, c, p, h, hn, hc => by omega
  | f + 1, n, c, p, h, hn, hc => by
    rw [progF]
    split
    · split
      · split
        · exact nz_err (by decide)
        · refine nz_bnd nz_arr fun n1 x e => ?_
          have hu := arr_up e
          exact nz_prog f _ _ _ (by omega) hu.2 hc
      · split
        · split
          · exact nz_err (by decide)
          · refine nz_bnd (nz_func hc) fun n1 x e => ?_
            have hu := func_up hc e
            exact nz_prog f _ _ _ (by omega) hu.2.1 hu.2.2
        · exact nz_err (by decide)
    · exact nz_ok
end
end Go.Proofs.YtikkppdihepmdaaDoor

/- What is parsed is parsed as that when more tokens stand behind; two programs, one behind the other (plain law of TreeJoins). -/
namespace Go.Proofs.YtikkppdihepmdaaDoor
open Go.Sx
set_option linter.unusedVariables false
set_option linter.unusedSimpArgs false
set_option maxRecDepth 100000

/-- The tokens of (s, l) are the first ones of (s', l'). -/
structure Ext (s : ByteArray) (l : List Tok) (s' : ByteArray) (l' : List Tok) : Prop where
  len : l.length ≤ l'.length
  kind : ∀ n, n < l.length → ∀ k, isV l' n k = isV l n k
  text : ∀ n, n < l.length → txV s' l' n = txV s l n
  place : ∀ n, n < l.length → atV s' l' n = atV s l n
  sgn : ∀ n, (txV s l n).data.toList = [125] → isV l n 1 = false
def Gs {α : Type} (r r' : Except (Int × Int) (Nat × α)) : Prop := ∀ n x, r = .ok (n, x) → r' = .ok (n, x)
section
variable {s : ByteArray} {l : List Tok} {s' : ByteArray} {l' : List Tok} (X : Ext s l s' l') {α β : Type}
theorem gs_err {e : Int × Int} {r : Except (Int × Int) (Nat × α)} : Gs (.error e) r := fun n x h => by cases h
theorem gs_rfl {r : Except (Int × Int) (Nat × α)} : Gs r r := fun n x h => h
theorem gs_bnd {r r' : Except (Int × Int) (Nat × α)} {k k' : Nat → α → Except (Int × Int) (Nat × β)} (h1 : Gs r r') (h2 : ∀ n a, r = .ok (n, a) → Gs (k n a) (k' n a)) : Gs (bnd r k) (bnd r' k') := by
  rcases r with e | ⟨n, a⟩
  · exact gs_err
  · rw [h1 n a rfl]
    exact h2 n a rfl
include X
theorem gs_nm {n : Nat} : Gs (nmV s l n) (nmV s' l' n) := by
  unfold nmV
  by_cases h : isV l n 1 = true
  · have hn := isV_lt h
    rw [if_pos h, X.kind n hn, if_pos h, X.text n hn]
    exact gs_rfl
  · rw [if_neg h]; exact gs_err
theorem gs_need {n : Nat} {b : UInt8} : Gs (needV s l n b) (needV s' l' n b) := by
  unfold needV
  by_cases h : (txV s l n).data.toList = [b]
  · rw [if_pos h, X.text n (tx_lt h), if_pos h]
    exact gs_rfl
  · rw [if_neg h]; exact gs_err
theorem gs_close {b : UInt8} {r r' : Except (Int × Int) (Nat × α)} (h : ∀ n x, r = .ok (n, x) → n < l.length → r' = .ok (n, x)) : Gs (closeV s l b r) (closeV s' l' b r') := by
  rcases r with e | ⟨n1, o⟩
  · exact gs_err
  · unfold closeV
    by_cases h1 : (txV s l n1).data.toList = [b]
    · have hn := tx_lt h1
      rw [h n1 o rfl hn]
      dsimp only
      rw [if_pos h1, X.text n1 hn, if_pos h1]
      exact gs_rfl
    · dsimp only
      rw [if_neg h1]; exact gs_err
theorem gw_namesF : ∀ (f f' n k : Nat) (o : List ByteArray), f ≤ f' → ∀ n' x, namesF s l f n k o = .ok (n', x) → n' < l.length → namesF s' l' f' n k o = .ok (n', x)
  | 0, f', n, k, o, _, n', x, h, _ => by simp [namesF] at h
  | f + 1, 0, n, k, o, hf, n', x, h, _ => by omega
  | f + 1, f' + 1, n, k, o, hf, n', x, h, hn' => by
    rw [namesF] at h ⊢
    split at h
    · rename_i h1
      have hn := isV_lt h1
      rw [X.kind n hn, if_pos h1, X.text n hn]
      split at h
      · cases h
      · rename_i h2
        rw [if_neg h2]
        split at h
        · rename_i h3
          rw [X.text _ (tx_lt h3), if_pos h3]
          exact gw_namesF f f' _ _ _ (by omega) n' x h hn'
        · rename_i h3
          simp only [Except.ok.injEq, Prod.mk.injEq] at h
          obtain ⟨rfl, rfl⟩ := h
          rw [X.text _ hn', if_neg h3]
    · cases h
theorem gs_names {n : Nat} : Gs (namesV s l n) (namesV s' l' n) := by
  unfold namesV
  by_cases h : (txV s l n).data.toList = [40]
  · rw [if_pos h, X.text n (tx_lt h), if_pos h]
    by_cases h2 : (txV s l (n + 1)).data.toList = [41]
    · rw [if_pos h2, X.text _ (tx_lt h2), if_pos h2]
      exact gs_rfl
    · rw [if_neg h2]
      have hlen := X.len
      have key := gs_close X (b := 41) (gw_namesF X (l.length + 2) (l'.length + 2) (n + 1) 0 [] (by omega))
      intro n' x e
      have hlt : n + 1 < l.length := by
        rcases hF : namesF s l (l.length + 2) (n + 1) 0 [] with er | ⟨n1, o1⟩
        · rw [hF] at e; cases e
        · rw [namesF] at hF
          split at hF
          · rename_i hi; exact isV_lt hi
          · cases hF
      rw [X.text _ hlt, if_neg h2]
      exact key n' x e
  · rw [if_neg h]; exact gs_err
theorem gs_arg {n : Nat} {x : Ins} : Gs (argV s l n x) (argV s' l' n x) := gs_bnd (gs_nm X) fun _ _ _ => gs_rfl
theorem gs_one {n : Nat} {x : Ins} : Gs (oneV7 s l n x) (oneV7 s' l' n x) := gs_bnd (gs_nm X) fun _ _ _ => gs_rfl
theorem gs_ref {n : Nat} {x : Ins} : Gs (refV s l n x) (refV s' l' n x) := gs_bnd (gs_nm X) fun _ _ _ => gs_rfl
theorem gs_pair {n : Nat} {x : Ins} : Gs (pairV s l n x) (pairV s' l' n x) := gs_bnd (gs_nm X) fun _ _ _ => gs_bnd (gs_need X) fun _ _ _ => gs_bnd (gs_nm X) fun _ _ _ => gs_rfl
theorem gw_pairsF : ∀ (f f' n k : Nat) (o : Ins), f ≤ f' → ∀ n' x, pairsF s l f n k o = .ok (n', x) → n' < l.length → pairsF s' l' f' n k o = .ok (n', x)
  | 0, f', n, k, o, _, n', x, h, _ => by simp [pairsF] at h
  | f + 1, 0, n, k, o, hf, n', x, h, _ => by omega
  | f + 1, f' + 1, n, k, o, hf, n', x, h, hn' => by
    rw [pairsF] at h ⊢
    split at h
    · cases h
    · rename_i h0
      rcases hP : pairV s l n o with e | ⟨n1, y⟩
      · rw [hP] at h; cases h
      · have hp := pairV_ok hP
        rw [X.kind n (isV_lt hp.2.2.1), if_neg h0, gs_pair X _ _ hP]
        rw [hP] at h
        simp only [bnd] at h ⊢
        split at h
        · rename_i h3
          rw [X.text _ (tx_lt h3), if_pos h3]
          exact gw_pairsF f f' _ _ _ (by omega) n' x h hn'
        · rename_i h3
          simp only [Except.ok.injEq, Prod.mk.injEq] at h
          obtain ⟨rfl, rfl⟩ := h
          rw [X.text _ hn', if_neg h3]
theorem gs_word {n : Nat} {x : Ins} {w : List UInt8} : Gs (wordV s l n x w) (wordV s' l' n x w) := by
  have hlen := X.len
  unfold wordV
  split
  · unfold constV
    by_cases h : isV l (n + 1) 3 = true
    · have hn := isV_lt h
      rw [if_pos h, X.kind _ hn, if_pos h, X.text _ hn]; exact gs_rfl
    · rw [if_neg h]; exact gs_err
  split
  · exact gs_bnd (gs_ref X) fun _ _ _ => gs_one X
  split
  · exact gs_bnd (gs_ref X) fun _ _ _ => gs_one X
  split
  · exact gs_ref X
  split
  · exact gs_bnd (gs_ref X) fun _ _ _ => gs_bnd (gs_names X) fun _ _ _ => gs_rfl
  split
  · exact gs_bnd (gs_one X) fun _ _ _ => gs_ref X
  split
  · exact gs_bnd (gs_need X) fun _ _ _ => gs_close X (gw_pairsF X _ _ _ _ _ (by omega))
  · exact gs_err
theorem gs_value {n : Nat} {x : Ins} (hn : n < l.length) : Gs (valueV s l n x) (valueV s' l' n x) := by
  unfold valueV
  rw [X.text n hn]
  split
  · exact gs_bnd (gs_arg X) fun _ _ _ => gs_arg X
  · exact gs_word X
theorem gs_act {w : List UInt8} {f : Nat → Ins → Except (Int × Int) (Nat × Ins)} (hf : actV s l w = some f) : ∃ f', actV s' l' w = some f' ∧ ∀ n x, Gs (f n x) (f' n x) := by
  unfold actV at hf ⊢
  split at hf
  · rename_i e
    obtain rfl := Option.some.inj hf
    exact ⟨_, if_pos e, fun n x => gs_bnd (gs_nm X) fun _ _ _ => gs_bnd (gs_arg X) fun _ _ _ => gs_bnd (gs_arg X) fun _ _ _ => gs_rfl⟩
  rename_i e1
  rw [if_neg e1]
  split at hf
  · rename_i e
    obtain rfl := Option.some.inj hf
    exact ⟨_, if_pos e, fun n x => gs_bnd (gs_nm X) fun _ _ _ => gs_bnd (gs_arg X) fun _ _ _ => gs_rfl⟩
  rename_i e2
  rw [if_neg e2]
  split at hf
  · rename_i e
    obtain rfl := Option.some.inj hf
    exact ⟨_, if_pos e, fun n x => gs_bnd (gs_nm X) fun _ _ _ => gs_rfl⟩
  rename_i e3
  rw [if_neg e3]
  split at hf
  · rename_i e
    obtain rfl := Option.some.inj hf
    exact ⟨_, if_pos e, fun n x => gs_bnd (gs_arg X) fun _ _ _ => gs_bnd (gs_nm X) fun _ _ _ => gs_bnd (gs_nm X) fun _ _ _ => gs_rfl⟩
  rename_i e4
  rw [if_neg e4]
  split at hf
  · rename_i e
    obtain rfl := Option.some.inj hf
    exact ⟨_, if_pos e, fun n x => gs_bnd (gs_arg X) fun _ _ _ => gs_rfl⟩
  · cases hf
omit X in
theorem tx_ge {n : Nat} (h : ¬ n < l.length) : (txV s l n).data.toList = [] := by
  unfold txV
  rw [if_neg h]; rfl
omit X in
/-- What an instruction is read from. -/
theorem instr_look {n c n' : Nat} {x : Ins} (h : instrV s l n c = .ok (n', x)) : n < l.length ∧ (isV l n 1 = true → (txV s l (n + 1)).data.toList = [61]) := by
  unfold instrV at h
  split at h
  · cases h
  rename_i h1
  split at h
  · cases h
  rename_i h2
  refine ⟨?_, fun hi => Classical.byContradiction fun hn => h2 ⟨hi, hn⟩⟩
  rcases Nat.lt_or_ge n l.length with hl | hl
  · exact hl
  · exfalso
    refine h1 ⟨?_, ?_⟩
    · unfold isV; rw [decide_eq_false (by omega)]; rfl
    · rw [tx_ge (by omega)]; rfl
theorem gs_instr {n c : Nat} : Gs (instrV s l n c) (instrV s' l' n c) := by
  intro n' y h
  obtain ⟨hn, hk⟩ := instr_look h
  unfold instrV at h ⊢
  rw [X.kind n hn, X.text n hn, X.place n hn, show (actV s' l' (txV s l n).data.toList).isNone = (actV s l (txV s l n).data.toList).isNone from act_iff]
  split at h
  · cases h
  rename_i h1
  rw [if_neg h1]
  split at h
  · cases h
  rename_i h2
  have e2 : ¬ (isV l n 1 = true ∧ ¬ (txV s' l' (n + 1)).data.toList = [61]) := fun ⟨hi, hne⟩ => by
    have := hk hi
    rw [X.text _ (tx_lt this)] at hne
    exact hne this
  rw [if_neg e2]
  split at h
  · cases h
  rename_i h3
  rw [if_neg h3]
  rcases ha : actV s l (txV s l n).data.toList with _ | f
  · have ha' : actV s' l' (txV s l n).data.toList = none := by
      have := act_iff (s := s) (l := l) (s' := s') (l' := l') (w := (txV s l n).data.toList)
      rw [ha] at this
      simpa using this.symm
    rw [ha] at h
    rw [ha']
    have hi : isV l n 1 = true := by
      rcases hI : isV l n 1 with _ | _
      · exact absurd ⟨hI, by rw [ha]; rfl⟩ h1
      · rfl
    refine gs_bnd (gs_nm X) (fun n1 d e => gs_bnd (gs_need X) fun n2 _ e2 => ?_) n' y h
    by_cases hn2 : n2 < l.length
    · exact gs_value X hn2
    · intro n3 z hz
      unfold valueV wordV at hz
      rw [tx_ge hn2] at hz
      have hop : opV (txV s l n2) = 0 := by
        have : txV s l n2 = .empty := by unfold txV; rw [if_neg hn2]
        rw [this]; decide +kernel
      rw [if_neg (by rw [hop]; simp)] at hz
      simp at hz
  · obtain ⟨f', hf', hs⟩ := gs_act X ha
    rw [ha] at h
    rw [hf']
    exact hs _ _ n' y h
theorem gs_beg {n : Nat} (h : begB s l n = true) : begB s' l' n = true := by
  unfold begB at h ⊢
  simp only [Bool.and_eq_true, decide_eq_true_eq] at h ⊢
  rw [X.kind _ (isV_lt h.1), X.text _ (tx_lt h.2)]
  exact h
theorem gs_code : ∀ (f n c : Nat) (xs : List Ins), Gs (codeF s l f n c xs) (codeF s' l' f n c xs)
  | 0, n, c, xs => gs_err
  | f + 1, n, c, xs => by
    rw [codeF, codeF]
    by_cases h : (txV s l n).data.toList = [125] ∨ begB s l n = true
    · rw [if_pos h, if_pos (show (txV s' l' n).data.toList = [125] ∨ begB s' l' n = true from ?_)]
      · exact gs_rfl
      · rcases h with h | h
        · left; rw [X.text n (tx_lt h)]; exact h
        · exact .inr (gs_beg X h)
    · rw [if_neg h]
      rcases hV : instrV s l n c with e | ⟨n1, y⟩
      · exact gs_err
      · obtain ⟨hn, hk⟩ := instr_look hV
        rw [if_neg, gs_instr X _ _ hV]
        · exact gs_code f _ _ _
        · rw [X.text n hn]
          intro h2
          rcases h2 with h2 | h2
          · exact h (.inl h2)
          · unfold begB at h2
            simp only [Bool.and_eq_true, decide_eq_true_eq] at h2
            rw [X.kind _ hn] at h2
            have h3 := hk h2.1
            rw [X.text _ (tx_lt h3), h3] at h2
            exact absurd h2.2 (by decide)
theorem gs_block {n c : Nat} : Gs (blockV s l n c) (blockV s' l' n c) := by
  rw [blockV_bnd, blockV_bnd]
  refine gs_bnd (gs_nm X) fun n1 nm e => ?_
  have hn : n < l.length := by
    unfold nmV at e
    split at e
    · rename_i hi; exact isV_lt hi
    · cases e
  rw [X.place n hn]
  exact gs_bnd (gs_need X) fun n2 _ _ => gs_bnd (gs_code X _ _ _ _) fun _ _ _ => gs_rfl
theorem gs_blocks : ∀ (f n c : Nat) (bs : List Blk) (n' : Nat) (y : Nat × List Blk), blocksF s l f n c bs = .ok (n', y) → (txV s l n').data.toList = [125] → blocksF s' l' f n c bs = .ok (n', y)
  | 0, n, c, bs, n', y, h, _ => by simp [blocksF] at h
  | f + 1, n, c, bs, n', y, h, ht => by
    rw [blocksF] at h ⊢
    split at h
    · rename_i hb
      rw [if_pos (gs_beg X hb)]
      split at h
      · cases h
      · rename_i h2
        rw [if_neg h2]
        rcases hV : blockV s l n c with e | ⟨n1, b⟩
        · rw [hV] at h; cases h
        · rw [gs_block X _ _ hV]
          rw [hV] at h
          exact gs_blocks f _ _ _ n' y h ht
    · rename_i hb
      simp only [Except.ok.injEq, Prod.mk.injEq] at h
      obtain ⟨rfl, rfl⟩ := h
      rw [if_neg]
      unfold begB
      rw [X.kind _ (tx_lt ht), X.sgn _ ht]
      simp
theorem gs_func {n c : Nat} (hn : n < l.length) : Gs (funcV s l n c) (funcV s' l' n c) := by
  rw [funcV_bnd, funcV_bnd, X.place n hn]
  refine gs_bnd (gs_nm X) fun n1 nm _ => gs_bnd (gs_names X) fun n2 ps _ => gs_bnd (gs_need X) fun n3 _ _ => gs_bnd (gs_block X) fun n4 r _ => ?_
  intro n' y h
  rcases h5 : blocksF s l 65 n4 r.1 [r.2] with e | ⟨n5, q⟩
  · rw [h5] at h; cases h
  rw [h5] at h
  simp only [bnd] at h
  rcases h6 : needV s l n5 125 with e | ⟨n6, u⟩
  · rw [h6] at h; cases h
  have ht : (txV s l n5).data.toList = [125] := by
    unfold needV at h6
    split at h6
    · assumption
    · cases h6
  rw [gs_blocks X _ _ _ _ _ _ h5 ht]
  simp only [bnd]
  rw [gs_need X _ _ h6]
  rw [h6] at h
  exact h
theorem gs_arr {n : Nat} (hn : n < l.length) : Gs (arrV s l n) (arrV s' l' n) := by
  unfold arrV
  rw [X.place n hn]
  refine gs_bnd (gs_nm X) fun n1 nm _ => ?_
  by_cases h : isV l n1 3 = true
  · have h1 := isV_lt h
    rw [if_pos h, X.kind _ h1, if_pos h, X.text _ h1]
    split
    · exact gs_err
    · exact gs_bnd (gs_nm X) fun _ _ _ => gs_rfl
  · rw [if_neg h]; exact gs_err
theorem prog_ext : ∀ {f n c : Nat} {p q : Prg} {n' : Nat}, c ≤ 4096 → c = progN p.funcs → n ≤ l.length → progF s l f n c p = .ok (n', q) → ∀ f2, l'.length + 1 ≤ f2 + n → ∃ f3, l'.length + 1 ≤ f3 + l.length ∧ progF s' l' f2 n c p = progF s' l' f3 l.length (progN q.funcs) q
  | 0, n, c, p, q, n', hc, hcp, hn, h, f2, hf => by simp [progF] at h
  | f + 1, n, c, p, q, n', hc, hcp, hn, h, f2, hf => by
    have hlen := X.len
    rw [progF] at h
    split at h
    · rename_i hlt
      obtain ⟨f2, rfl⟩ : ∃ g, f2 = g + 1 := ⟨f2 - 1, by omega⟩
      rw [progF, if_pos (show n < l'.length by omega), X.text n hlt]
      split at h
      · rename_i w1
        rw [if_pos w1]
        split at h
        · cases h
        · rename_i k1
          rw [if_neg k1]
          rcases hV : arrV s l n with e | ⟨n1, x⟩
          · rw [hV] at h; cases h
          · rw [gs_arr X hlt _ _ hV]
            rw [hV] at h
            have hu := arr_up hV
            exact prog_ext (p := ⟨p.arrays ++ [x], p.funcs⟩) hc hcp hu.2 h f2 (by omega)
      · rename_i w1
        rw [if_neg w1]
        split at h
        · rename_i w2
          rw [if_pos w2]
          split at h
          · cases h
          · rename_i k1
            rw [if_neg k1]
            rcases hV : funcV s l n c with e | ⟨n1, c1, x⟩
            · rw [hV] at h; cases h
            · rw [gs_func X hlt _ _ hV]
              rw [hV] at h
              have hu := func_up hc hV
              have hf' := func_count hV
              exact prog_ext (p := ⟨p.arrays, p.funcs ++ [x]⟩) hu.2.2 (by rw [progN_add]; omega) hu.2.1 h f2 (by omega)
        · cases h
    · rename_i hlt
      simp only [Except.ok.injEq, Prod.mk.injEq] at h
      obtain ⟨rfl, rfl⟩ := h
      have e : n = l.length := by omega
      subst e
      exact ⟨f2, hf, by rw [hcp]⟩
end
theorem run_sgn {s : ByteArray} : ∀ {l : List Tok} {a : Nat} {r : Int × Int}, Run s a l r → a ≤ s.size → ∀ n, (txV s l n).data.toList = [125] → isV l n 1 = false
  | [], a, r, h, ha, n, ht => by unfold isV; rw [decide_eq_false (by simp)]; rfl
  | t :: l, a, r, ⟨g1, g2, g3, g4, g5⟩, ha, 0, ht => by
    have hp := (pc_of ha g1).2.2.2
    have ht : (s.extract t.f.toNat t.t.toNat).data.toList = [125] := ht
    have hw : s.extract t.f.toNat t.t.toNat = ⟨#[125]⟩ := ba_inj ht
    rw [hw] at hp
    have hk : t.k = 4 := by
      rcases hp with ⟨_, _, h⟩ | ⟨h, _⟩
      · exact h
      · exact absurd h (by decide +kernel)
    unfold isV
    rw [show ((t :: l).getD 0 tok0).k = 4 from hk]
    simp
  | t :: l, a, r, ⟨g1, g2, g3, g4, g5⟩, ha, n + 1, ht => by
    have e1 : txV s (t :: l) (n + 1) = txV s l n := by
      unfold txV
      by_cases hn : n < l.length
      · rw [if_pos hn, if_pos (show n + 1 < (t :: l).length by rw [List.length_cons]; omega)]; rfl
      · rw [if_neg hn, if_neg (show ¬ n + 1 < (t :: l).length by rw [List.length_cons]; omega)]
    rw [e1] at ht
    have := run_sgn g5 (by omega) n ht
    unfold isV at this ⊢
    rw [← this, show (t :: l).getD (n + 1) tok0 = l.getD n tok0 from rfl]
    congr 1
    rw [decide_eq_decide, List.length_cons]; omega
theorem getD_left {α : Type} (a b : List α) (d : α) {n : Nat} (h : n < a.length) : (a ++ b).getD n d = a.getD n d := by
  rw [List.getD_eq_getElem?_getD, List.getElem?_append_left h, ← List.getD_eq_getElem?_getD]
theorem getD_right {α : Type} (a b : List α) (d : α) (n : Nat) : (a ++ b).getD (a.length + n) d = b.getD n d := by
  rw [List.getD_eq_getElem?_getD, List.getElem?_append_right (by omega), Nat.add_sub_cancel_left, ← List.getD_eq_getElem?_getD]
/-- The plain law of TreeJoins. -/
theorem tree_joins {a b : ByteArray} (ha : a.size ≤ 10000) (hb : b.size ≤ 10000) (ea : (parseV a).2.2 = 0) (eb : (parseV b).2.2 = 0) :
    (progN (parseV a).1.funcs ≤ 4096 ∧ progN (parseV b).1.funcs ≤ 4096) ∧
    if progN (parseV a).1.funcs + progN (parseV b).1.funcs ≤ 4096 ∧ (parseV a).1.arrays.length + (parseV b).1.arrays.length ≤ 16 ∧ (parseV a).1.funcs.length + (parseV b).1.funcs.length ≤ 64 then
      (parseV (a ++ (nl ++ b))).2.2 = 0 ∧ sameB (parseV (a ++ (nl ++ b))).1 ⟨(parseV a).1.arrays ++ (parseV b).1.arrays, (parseV a).1.funcs ++ (parseV b).1.funcs⟩ false = true
    else (parseV (a ++ (nl ++ b))).2.2 = 3 := by
  have ta : (allV a).2.2 = 0 := by
    unfold parseV at ea
    split at ea
    · assumption
    · exact ea
  have tb : (allV b).2.2 = 0 := by
    unfold parseV at eb
    split at eb
    · assumption
    · exact eb
  have hj := joins_plain ha hb ta
  rw [if_pos tb] at hj
  obtain ⟨_, _, ra, _, hra⟩ := all_run ta
  obtain ⟨_, _, rb, _, hrb⟩ := all_run tb
  have lia := all_lies a (by omega)
  have lib := all_lies b (by omega)
  unfold parseV at ea eb ⊢
  rw [hj, if_pos (show (0 : Int) = 0 from rfl), if_pos ta, if_pos tb]
  rw [if_pos ta] at ea
  rw [if_pos tb] at eb
  dsimp only
  obtain ⟨la, hla⟩ : ∃ l, (allV a).1 = l := ⟨_, rfl⟩
  obtain ⟨lb, hlb⟩ : ∃ l, (allV b).1 = l := ⟨_, rfl⟩
  rw [hla] at ea hra lia ⊢
  rw [hlb] at eb hrb lib ⊢
  have X : Ext a la (a ++ (nl ++ b)) (la ++ lb.map (shT (a.size + 1))) := by
    refine ⟨by rw [List.length_append]; omega, fun n hn k => ?_, fun n hn => ?_, fun n hn => ?_, run_sgn hra (Nat.zero_le _)⟩
    · unfold isV
      rw [getD_left _ _ _ hn, decide_eq_true hn, decide_eq_true (show n < _ by rw [List.length_append]; omega)]
    · have := lia.get hn
      unfold txV
      rw [if_pos hn, if_pos (show n < _ by rw [List.length_append]; omega), getD_left _ _ _ hn, ex_left _ _ (by omega)]
    · unfold atV
      rw [if_pos hn, if_pos (show n < _ by rw [List.length_append]; omega), getD_left _ _ _ hn]
  have S : Sim b lb (a ++ (nl ++ b)) (la ++ lb.map (shT (a.size + 1))) la.length := by
    have hl2 : (la ++ lb.map (shT (a.size + 1))).length = la.length + lb.length := by rw [List.length_append, List.length_map]
    have hg : ∀ n, n < lb.length → (la ++ lb.map (shT (a.size + 1))).getD (la.length + n) tok0 = shT (a.size + 1) (lb.getD n tok0) := fun n hn => by
      rw [getD_right, List.getD_eq_getElem?_getD, List.getElem?_map, List.getD_eq_getElem?_getD, List.getElem?_eq_getElem hn]
      rfl
    refine ⟨hl2, fun n k => ?_, fun n => ?_⟩
    · unfold isV
      rw [hl2]
      by_cases hn : n < lb.length
      · rw [hg n hn, decide_eq_true hn, decide_eq_true (by omega)]
        rfl
      · rw [decide_eq_false hn, decide_eq_false (show ¬ la.length + n < la.length + lb.length by omega)]
        rfl
    · unfold txV
      rw [hl2]
      by_cases hn : n < lb.length
      · rw [if_pos hn, if_pos (by omega), hg n hn]
        have := lib.get hn
        have hk : (a ++ nl).size = a.size + 1 := app_size a nl
        have e := ex_right (a ++ nl) b (lb.getD n tok0).f.toNat (lb.getD n tok0).t.toNat
        rw [app_assoc, hk] at e
        show (a ++ (nl ++ b)).extract ((lb.getD n tok0).f + ((a.size + 1 : Nat) : Int)).toNat ((lb.getD n tok0).t + ((a.size + 1 : Nat) : Int)).toNat = _
        rw [← e]
        congr 1 <;> omega
      · rw [if_neg hn, if_neg (by omega)]
  have hll : (la ++ lb.map (shT (a.size + 1))).length = la.length + lb.length := by rw [List.length_append, List.length_map]
  obtain ⟨l', hl'⟩ : ∃ l', la ++ lb.map (shT (a.size + 1)) = l' := ⟨_, rfl⟩
  obtain ⟨s', hs'⟩ : ∃ s', a ++ (nl ++ b) = s' := ⟨_, rfl⟩
  rw [hl'] at X S hll ⊢
  rw [hs'] at X S ⊢
  rcases hA : progF a la (la.length + 1) 0 0 ⟨[], []⟩ with ⟨xa, xe⟩ | ⟨na, p⟩
  · rw [hA] at ea
    exact absurd ea (nz_prog _ _ _ _ (by omega) (Nat.zero_le _) (Nat.zero_le _) _ hA)
  rcases hB : progF b lb (lb.length + 1) 0 0 ⟨[], []⟩ with ⟨xa, xe⟩ | ⟨nb, q⟩
  · rw [hB] at eb
    exact absurd eb (nz_prog _ _ _ _ (by omega) (Nat.zero_le _) (Nat.zero_le _) _ hB)
  have gA := prog_grow (Nat.zero_le _) rfl (Nat.zero_le _) (Nat.zero_le _) hA
  have gB := prog_grow (Nat.zero_le _) rfl (Nat.zero_le _) (Nat.zero_le _) hB
  obtain ⟨f3, hf3, e3⟩ := prog_ext X (Nat.zero_le _) rfl (Nat.zero_le _) hA (l'.length + 1) (by omega)
  rw [e3]
  have h := sim_prog (c0 := progN p.funcs) S (p.arrays.map erA) (p.funcs.map erF) (lb.length + 1) 0 0 ⟨[], []⟩ p (Nat.zero_le _) (Nat.zero_le _) rfl (by omega) (Nat.zero_le _) (Nat.zero_le _) (by rw [List.length_map]; show _ + 0 ≤ _; omega) (by rw [List.length_map]; show _ + 0 ≤ _; omega) (List.append_nil _).symm (List.append_nil _).symm
  rw [hB, progF_fuel (lb.length + 1) f3 _ _ _ (by omega) (by omega) (by omega) (by omega), show progF s' l' f3 (la.length + 0) (progN p.funcs + 0) p = progF s' l' f3 la.length (progN p.funcs) p from rfl] at h
  unfold SimP at h
  dsimp only at h
  rw [List.length_map, List.length_map] at h
  refine ⟨⟨gA.2.2.2.1, gB.2.2.2.1⟩, ?_⟩
  show if progN p.funcs + progN q.funcs ≤ 4096 ∧ p.arrays.length + q.arrays.length ≤ 16 ∧ p.funcs.length + q.funcs.length ≤ 64 then _ else _
  split
  · rename_i hc
    rw [if_pos hc] at h
    obtain ⟨q', e', h1, h2⟩ := h
    rw [e']
    refine ⟨rfl, sameB_er ?_ ?_⟩
    · show q'.arrays.map erA = (p.arrays ++ q.arrays).map erA
      rw [h1, List.map_append]
    · show q'.funcs.map erF = (p.funcs ++ q.funcs).map erF
      rw [h2, List.map_append]
  · rename_i hc
    rw [if_neg hc] at h
    obtain ⟨a', e'⟩ := h
    rw [e']
    rfl
end Go.Proofs.YtikkppdihepmdaaDoor
