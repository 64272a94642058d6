/- Texts put together: T08Y, T08Z, T08K, T08L, T08I, T08N, T08M. -/
import Derived.Test.YteeofakohenpoaaDoorME
import Derived.Test.YteeofakohenpoaaDoorSxG
import Derived.Test.YteeofakohenpoaaDoorMC

/- What is written is read as it was: programs. -/
namespace Go.Proofs.YteeofakohenpoaaDoor
open Go.Sx
set_option linter.unusedVariables false
set_option linter.unusedSimpArgs false
set_option maxRecDepth 100000

theorem tkI_cases {x : Ins} (hr : rightI x = true) : (∃ w R, tkI x = (2, w) :: R ∧ w.data.toList ≠ [125]) ∨ ∃ R, tkI x = (1, x.dst) :: (4, ⟨#[61]⟩) :: R ∧ okN x.dst = true := by
  by_cases e6 : x.kind = 6
  · exact .inl ⟨⟨#[115, 116, 111, 114, 101]⟩, _, by unfold tkI; rw [e6]; rfl, by decide⟩
  by_cases e9 : x.kind = 9
  · exact .inl ⟨⟨#[111, 117, 116, 112, 117, 116]⟩, _, by unfold tkI; rw [e9]; rfl, by decide⟩
  by_cases e11 : x.kind = 11
  · exact .inl ⟨⟨#[106, 117, 109, 112]⟩, _, by unfold tkI; rw [e11]; rfl, by decide⟩
  by_cases e12 : x.kind = 12
  · exact .inl ⟨⟨#[98, 114, 97, 110, 99, 104]⟩, _, by unfold tkI; rw [e12]; rfl, by decide⟩
  by_cases e13 : x.kind = 13
  · exact .inl ⟨⟨#[114, 101, 116, 117, 114, 110]⟩, _, by unfold tkI; rw [e13]; rfl, by decide⟩
  exact .inr ⟨_, by unfold tkI; rw [if_neg e6, if_neg e9, if_neg e11, if_neg e12, if_neg e13], dst_ok hr e6 e9 e11 e12 e13⟩
section
variable {s : ByteArray} {l : List Tok} {n : Nat} {T : Tks}
theorem beg_at {k : Int} {w : ByteArray} (h : AtT s l n ((k, w) :: T)) : begB s l n = (decide (k = 1) && decide ((hdT T).data.toList = [58])) := by
  unfold begB
  rw [h.kind, h.hd.2.2.2.text]
/-- Here code ends: a } or a block's beginning. -/
def Stops (s : ByteArray) (l : List Tok) (T : Tks) : Prop := ∀ m, AtT s l m T → (txV s l m).data.toList = [125] ∨ begB s l m = true
theorem tkI_goes {x : Ins} (hr : rightI x = true) (h : AtT s l n (tkI x ++ T)) : ¬ ((txV s l n).data.toList = [125] ∨ begB s l n = true) := by
  rcases tkI_cases hr with ⟨w, R, e, hw⟩ | ⟨R, e, hd⟩
  · rw [e] at h
    have h : AtT s l n ((2, w) :: (R ++ T)) := h
    rw [h.hd.2.2.1, beg_at h]
    rintro (h1 | h1)
    · exact hw h1
    · simp at h1
  · rw [e] at h
    have h : AtT s l n ((1, x.dst) :: (4, ⟨#[61]⟩) :: (R ++ T)) := h
    rw [h.hd.2.2.1, beg_at h]
    rintro (h1 | h1)
    · exact not_sign hd (b := 125) (by decide) h1
    · have h1 : (decide ((1 : Int) = 1) && decide (([61] : List UInt8) = [58])) = true := h1
      revert h1; decide
theorem f_code : ∀ (xs : List Ins) (f n c : Nat) (acc : List Ins), (∀ x, x ∈ xs → rightI x = true ∧ inI64 x.num) → xs.length < f → c + xs.length ≤ 4096 → Stops s l T → AtT s l n (tkC xs ++ T) →
    ∃ ys, ys.map erI = xs.map erI ∧ codeF s l f n c acc = .ok (n + (tkC xs).length, (c + xs.length, acc ++ ys))
  | [], f, n, c, acc, _, hf, hc, hs, h => by
    obtain ⟨f, rfl⟩ : ∃ g, f = g + 1 := ⟨f - 1, by simp at hf; omega⟩
    refine ⟨[], rfl, ?_⟩
    rw [codeF, if_pos (hs n h), List.append_nil]
    rfl
  | x :: r, f, n, c, acc, hx, hf, hc, hs, h => by
    obtain ⟨f, rfl⟩ : ∃ g, f = g + 1 := ⟨f - 1, by simp at hf; omega⟩
    simp only [List.length_cons] at hf hc
    have e : tkC (x :: r) = tkI x ++ tkC r := rfl
    rw [e, List.append_assoc] at h
    obtain ⟨h1, h2⟩ := hx x (by simp)
    obtain ⟨ys, g1, g2⟩ := f_code r f (n + (tkI x).length) (c + 1) (acc ++ [{ x with at_ := atV s l n }]) (fun y hy => hx y (List.mem_cons_of_mem _ hy)) (by omega) (by omega) hs h.app
    refine ⟨{ x with at_ := atV s l n } :: ys, ?_, ?_⟩
    · rw [List.map_cons, List.map_cons, g1]; rfl
    · rw [codeF, if_neg (tkI_goes h1 h), f_instr h1 h2 (by omega) h]
      simp only [bnd]
      rw [g2, e, List.length_append, List.append_assoc, List.length_cons, show n + (tkI x).length + (tkC r).length = n + ((tkI x).length + (tkC r).length) by omega, show c + 1 + r.length = c + (r.length + 1) by omega]
      rfl
theorem f_block {b : Blk} (hb : BlkR b) (hn : ∀ x, x ∈ b.code → inI64 x.num) {c : Nat} (hc : c + b.code.length ≤ 4096) (hs : Stops s l T) (h : AtT s l n (tkB b ++ T)) :
    ∃ b', erB b' = erB b ∧ blockV s l n c = .ok (n + (tkB b).length, (c + b.code.length, b')) := by
  have h : AtT s l n ((1, b.name) :: (4, ⟨#[58]⟩) :: (tkC b.code ++ T)) := h
  have h1 := h.hd.2.2.2
  have h2 := h1.hd.2.2.2
  obtain ⟨ys, g1, g2⟩ := f_code b.code 4098 (n + 1 + 1) c [] (fun x hx => ⟨hb.code x hx, hn x hx⟩) (by have := hb.few; omega) hc hs h2
  refine ⟨⟨b.name, ys, atV s l n⟩, ?_, ?_⟩
  · unfold erB; rw [g1]
  · unfold blockV
    rw [f_nm h]
    simp only [bnd]
    rw [f_need h1 rfl]
    simp only
    rw [g2]
    simp only [List.nil_append]
    rw [show n + 1 + 1 + (tkC b.code).length = n + (tkB b).length by unfold tkB; simp only [List.length_cons]; omega]
def cN (bs : List Blk) : Nat := (bs.map fun b => b.code.length).sum
theorem stop_blocks {bs : List Blk} {R : Tks} : Stops s l (tkBs bs ++ (4, ⟨#[125]⟩) :: R) := fun m h => by
  cases bs with
  | nil =>
    have h : AtT s l m ((4, ⟨#[125]⟩) :: R) := h
    exact .inl (by rw [h.hd.2.2.1])
  | cons b r =>
    have h : AtT s l m ((1, b.name) :: (4, ⟨#[58]⟩) :: (tkC b.code ++ tkBs r ++ (4, ⟨#[125]⟩) :: R)) := by
      have e : tkBs (b :: r) = tkB b ++ tkBs r := rfl
      rw [e] at h
      unfold tkB at h
      simpa only [List.cons_append, List.append_assoc] using h
    refine .inr ?_
    rw [beg_at h]
    rfl
theorem f_blocks {R : Tks} : ∀ (bs : List Blk) (f n c : Nat) (acc : List Blk), (∀ b, b ∈ bs → BlkR b ∧ ∀ x, x ∈ b.code → inI64 x.num) → bs.length < f → acc.length + bs.length ≤ 64 → c + cN bs ≤ 4096 → AtT s l n (tkBs bs ++ (4, ⟨#[125]⟩) :: R) →
    ∃ ys, ys.map erB = bs.map erB ∧ blocksF s l f n c acc = .ok (n + (tkBs bs).length, (c + cN bs, acc ++ ys))
  | [], f, n, c, acc, _, hf, _, _, h => by
    obtain ⟨f, rfl⟩ : ∃ g, f = g + 1 := ⟨f - 1, by simp at hf; omega⟩
    have h : AtT s l n ((4, ⟨#[125]⟩) :: R) := h
    refine ⟨[], rfl, ?_⟩
    rw [blocksF, if_neg (by rw [beg_at h]; simp), List.append_nil]
    rfl
  | b :: r, f, n, c, acc, hb, hf, h64, hc, h => by
    obtain ⟨f, rfl⟩ : ∃ g, f = g + 1 := ⟨f - 1, by simp at hf; omega⟩
    simp only [List.length_cons] at hf h64
    have ec : cN (b :: r) = b.code.length + cN r := rfl
    rw [ec] at hc
    have e : tkBs (b :: r) = tkB b ++ tkBs r := rfl
    have hbg : begB s l n = true := by
      have h : AtT s l n ((1, b.name) :: (4, ⟨#[58]⟩) :: (tkC b.code ++ tkBs r ++ (4, ⟨#[125]⟩) :: R)) := by
        rw [e] at h
        unfold tkB at h
        simpa only [List.cons_append, List.append_assoc] using h
      rw [beg_at h]; rfl
    rw [e, List.append_assoc] at h
    obtain ⟨h1, h2⟩ := hb b (by simp)
    obtain ⟨b', k1, k2⟩ := f_block h1 h2 (c := c) (by omega) stop_blocks h
    obtain ⟨ys, g1, g2⟩ := f_blocks r f (n + (tkB b).length) (c + b.code.length) (acc ++ [b']) (fun y hy => hb y (List.mem_cons_of_mem _ hy)) (by omega) (by simp; omega) (by omega) h.app
    refine ⟨b' :: ys, by rw [List.map_cons, List.map_cons, g1, k1], ?_⟩
    rw [blocksF, if_pos hbg, if_neg (by omega), k2]
    simp only [bnd]
    rw [g2, e, ec, List.length_append, List.append_assoc, show n + (tkB b).length + (tkBs r).length = n + ((tkB b).length + (tkBs r).length) by omega, show c + b.code.length + cN r = c + (b.code.length + cN r) by omega]
    rfl
theorem f_func {f : Fun} (hf : FunR f) (hn : ∀ b, b ∈ f.blocks → ∀ x, x ∈ b.code → inI64 x.num) (h1 : 1 ≤ f.blocks.length) {c : Nat} (hc : c + fN f ≤ 4096) (h : AtT s l n (tkF f ++ T)) :
    ∃ f', erF f' = erF f ∧ funcV s l n c = .ok (n + (tkF f).length, (c + fN f, f')) := by
  obtain ⟨b, r, hbr⟩ : ∃ b r, f.blocks = b :: r := by
    match hb : f.blocks, h1 with
    | b :: r, _ => exact ⟨b, r, rfl⟩
  have e : tkF f = (2, (⟨#[102, 110]⟩ : ByteArray)) :: (1, f.name) :: (4, ⟨#[40]⟩) :: (tkNs f.params ++ (4, ⟨#[41]⟩) :: (4, ⟨#[123]⟩) :: (tkB b ++ (tkBs r ++ [(4, ⟨#[125]⟩)]))) := by
    unfold tkF
    rw [hbr]
    have e : tkBs (b :: r) = tkB b ++ tkBs r := rfl
    rw [e, List.append_assoc]
  have hlen := congrArg List.length e
  simp only [List.length_cons, List.length_append, List.length_nil] at hlen
  rw [e] at h
  have h : AtT s l n ((2, (⟨#[102, 110]⟩ : ByteArray)) :: (1, f.name) :: (4, ⟨#[40]⟩) :: (tkNs f.params ++ (4, ⟨#[41]⟩) :: (4, ⟨#[123]⟩) :: (tkB b ++ (tkBs r ++ (4, ⟨#[125]⟩) :: T)))) := by
    simpa only [List.cons_append, List.append_assoc, List.nil_append] using h
  have k1 := h.hd.2.2.2
  have k2 := k1.hd.2.2.2
  obtain ⟨p1, p2⟩ := f_names hf.params hf.plen k2
  have k3 := p2.hd.2.2.2
  have ec : fN f = b.code.length + cN r := by unfold fN; rw [hbr]; rfl
  have hb := hf.blocks
  have hn2 := hn
  rw [hbr] at hb hn2
  have hbl := hf.blen
  rw [hbr, List.length_cons] at hbl
  obtain ⟨b', q1, q2⟩ := f_block (hb b (by simp)) (hn2 b (by simp)) (c := c) (by omega) stop_blocks k3
  obtain ⟨ys, g1, g2⟩ := f_blocks r 65 _ (c + b.code.length) [b'] (fun y hy => ⟨hb y (List.mem_cons_of_mem _ hy), hn2 y (List.mem_cons_of_mem _ hy)⟩) (by omega) (by simp; omega) (by omega) k3.app
  have k5 : AtT s l _ ((4, ⟨#[125]⟩) :: T) := k3.app.app
  refine ⟨⟨f.name, f.params, b' :: ys, atV s l n⟩, ?_, ?_⟩
  · unfold erF
    rw [hbr, List.map_cons, List.map_cons, g1, q1]
  · unfold funcV
    rw [f_nm k1]
    simp only [bnd]
    rw [p1]
    simp only
    rw [f_need p2 rfl]
    simp only
    rw [q2]
    simp only
    rw [g2]
    simp only
    rw [f_need k5 rfl]
    simp only [List.singleton_append]
    rw [hlen, ec, show n + 1 + 1 + 2 + (tkNs f.params).length + 1 + (tkB b).length + (tkBs r).length + 1 = n + ((tkNs f.params).length + ((tkB b).length + ((tkBs r).length + (0 + 1)) + 1 + 1) + 1 + 1 + 1) by omega, show c + b.code.length + cN r = c + (b.code.length + cN r) by omega]
theorem f_arr {a : Arr} (ha : arrOK a = true) (h : AtT s l n (tkA a ++ T)) : arrV s l n = .ok (n + 4, { a with at_ := atV s l n }) := by
  unfold arrOK at ha
  simp only [Bool.not_eq_true', Bool.or_eq_false_iff, decide_eq_false_iff_not, Bool.not_eq_false'] at ha
  obtain ⟨⟨⟨h1, h2⟩, h3⟩, h4⟩ := ha
  have h : AtT s l n ((2, ⟨#[97, 114, 114, 97, 121]⟩) :: (1, a.name) :: (3, showV a.size) :: (1, a.level) :: T) := h
  have k1 := h.hd.2.2.2
  have k2 := k1.hd.2.2.2
  have k3 := k2.hd.2.2.2
  unfold arrV
  rw [f_nm k1]
  simp only [bnd]
  rw [if_pos k2.is, k2.hd.2.2.1, num_back a.size (by unfold inI64; omega), if_neg (by omega), f_nm k3]
/-! ### programs -/
theorem f_funcs : ∀ (fs : List Fun) (f n c : Nat) (p : Prg), (∀ g, g ∈ fs → FunR g ∧ 1 ≤ g.blocks.length ∧ ∀ b, b ∈ g.blocks → ∀ x, x ∈ b.code → inI64 x.num) → fs.length < f → p.funcs.length + fs.length ≤ 64 → c + (fs.map fN).sum ≤ 4096 → AtT s l n (fs.map tkF).flatten →
    ∃ ys m, ys.map erF = fs.map erF ∧ progF s l f n c p = .ok (m, ⟨p.arrays, p.funcs ++ ys⟩)
  | [], f, n, c, p, _, hf, _, _, h => by
    obtain ⟨f, rfl⟩ : ∃ g, f = g + 1 := ⟨f - 1, by simp at hf; omega⟩
    have hl := h.len
    refine ⟨[], n, rfl, ?_⟩
    rw [progF, if_neg (by simp at hl; omega), List.append_nil]
  | g :: r, f, n, c, p, hg, hf, h64, hc, h => by
    obtain ⟨f, rfl⟩ : ∃ k, f = k + 1 := ⟨f - 1, by simp at hf; omega⟩
    simp only [List.length_cons, List.map_cons, List.sum_cons] at hf h64 hc
    obtain ⟨g1, g2, g3⟩ := hg g (by simp)
    rw [List.map_cons, List.flatten_cons] at h
    obtain ⟨g', k1, k2⟩ := f_func g1 g3 g2 (c := c) (by omega) h
    obtain ⟨ys, m, q1, q2⟩ := f_funcs r f (n + (tkF g).length) (c + fN g) ⟨p.arrays, p.funcs ++ [g']⟩ (fun y hy => hg y (List.mem_cons_of_mem _ hy)) (by omega) (by simp; omega) (by omega) h.app
    refine ⟨g' :: ys, m, by rw [List.map_cons, List.map_cons, q1, k1], ?_⟩
    have h0 : AtT s l n ((2, (⟨#[102, 110]⟩ : ByteArray)) :: ((1, g.name) :: (4, ⟨#[40]⟩) :: (tkNs g.params ++ (4, ⟨#[41]⟩) :: (4, ⟨#[123]⟩) :: (tkBs g.blocks ++ [(4, ⟨#[125]⟩)])) ++ (r.map tkF).flatten)) := h
    rw [progF, if_pos h0.hd.1, h0.hd.2.2.1, if_neg (by decide), if_pos rfl, if_neg (by omega), k2]
    simp only [bnd]
    rw [q2, List.append_assoc]
    rfl
theorem f_arrs (fs : List Fun) : ∀ (qs : List Arr) (f n : Nat) (p : Prg), p.funcs = [] → (∀ a, a ∈ qs → arrOK a = true) → (∀ g, g ∈ fs → FunR g ∧ 1 ≤ g.blocks.length ∧ ∀ b, b ∈ g.blocks → ∀ x, x ∈ b.code → inI64 x.num) → qs.length + fs.length < f → p.arrays.length + qs.length ≤ 16 → fs.length ≤ 64 → (fs.map fN).sum ≤ 4096 → AtT s l n ((qs.map tkA).flatten ++ (fs.map tkF).flatten) →
    ∃ xs ys m, xs.map erA = qs.map erA ∧ ys.map erF = fs.map erF ∧ progF s l f n 0 p = .ok (m, ⟨p.arrays ++ xs, ys⟩)
  | [], f, n, p, hp, _, hg, hf, h16, h64, hc, h => by
    obtain ⟨ys, m, q1, q2⟩ := f_funcs fs f n 0 p hg (by simp at hf; omega) (by rw [hp]; simp; omega) (by omega) h
    refine ⟨[], ys, m, rfl, q1, ?_⟩
    rw [q2, List.append_nil, hp, List.nil_append]
  | a :: r, f, n, p, hp, ha, hg, hf, h16, h64, hc, h => by
    obtain ⟨f, rfl⟩ : ∃ k, f = k + 1 := ⟨f - 1, by simp at hf; omega⟩
    simp only [List.length_cons] at hf h16
    rw [List.map_cons, List.flatten_cons, List.append_assoc] at h
    have k := f_arr (ha a (by simp)) h
    obtain ⟨xs, ys, m, q1, q2, q3⟩ := f_arrs fs r f (n + 4) ⟨p.arrays ++ [{ a with at_ := atV s l n }], p.funcs⟩ hp (fun y hy => ha y (List.mem_cons_of_mem _ hy)) hg (by omega) (by simp; omega) h64 hc h.app
    refine ⟨{ a with at_ := atV s l n } :: xs, ys, m, by rw [List.map_cons, List.map_cons, q1]; rfl, q2, ?_⟩
    have h0 : AtT s l n ((2, (⟨#[97, 114, 114, 97, 121]⟩ : ByteArray)) :: ([(1, a.name), (3, showV a.size), (1, a.level)] ++ ((r.map tkA).flatten ++ (fs.map tkF).flatten))) := h
    rw [progF, if_pos h0.hd.1, h0.hd.2.2.1, if_pos rfl, if_neg (by omega), k]
    simp only [bnd]
    rw [q3, List.append_assoc]
    rfl
end
theorem tk_many (p : Prg) : p.arrays.length + p.funcs.length ≤ (tkP p).length := by
  have h1 : ∀ qs : List Arr, qs.length ≤ ((qs.map tkA).flatten).length := fun qs => by
    induction qs with
    | nil => exact Nat.zero_le _
    | cons a r ih => rw [List.map_cons, List.flatten_cons, List.length_append, List.length_cons]; show _ ≤ 4 + _; omega
  have h2 : ∀ fs : List Fun, fs.length ≤ ((fs.map tkF).flatten).length := fun fs => by
    induction fs with
    | nil => exact Nat.zero_le _
    | cons a r ih =>
      rw [List.map_cons, List.flatten_cons, List.length_append, List.length_cons]
      have : 1 ≤ (tkF a).length := by unfold tkF; simp
      omega
  unfold tkP
  rw [List.length_append]
  have := h1 p.arrays
  have := h2 p.funcs
  omega
theorem right_some {p : Prg} (h : rightP p = true) : ∀ f, f ∈ p.funcs → 1 ≤ f.blocks.length := fun f hf => by
  unfold rightP at h
  simp only [Bool.and_eq_true, List.all_eq_true] at h
  have hk := h.1.2 f hf
  unfold funOK at hk
  simp only [Bool.and_eq_true, Bool.not_eq_true', Bool.or_eq_false_iff, decide_eq_false_iff_not] at hk
  omega
/-- **What is written is read as that**, but for the places. -/
theorem parse_text {p : Prg} (hr : rightP p = true) (hn : ∀ f, f ∈ p.funcs → ∀ b, b ∈ f.blocks → ∀ x, x ∈ b.code → inI64 x.num) (hz : (textP p).size ≤ 65536) :
    (parseV (textP p)).2.2 = 0 ∧ (parseV (textP p)).1.arrays.map erA = p.arrays.map erA ∧ (parseV (textP p)).1.funcs.map erF = p.funcs.map erF := by
  obtain ⟨t1, t2⟩ := txt_all (tx_prog hr hn) hz
  have hR := right_prg hr
  have hat : AtT (textP p) (allV (textP p)).1 0 ((p.arrays.map tkA).flatten ++ (p.funcs.map tkF).flatten) := AtT.of t2
  have hlen : (allV (textP p)).1.length = (tkP p).length := by rw [← t2, List.length_map]
  have hmany := tk_many p
  have hcode : (p.funcs.map fN).sum ≤ 4096 := by
    unfold rightP at hr
    simp only [Bool.and_eq_true, decide_eq_true_eq] at hr
    exact hr.2
  obtain ⟨xs, ys, m, q1, q2, q3⟩ := f_arrs p.funcs p.arrays ((allV (textP p)).1.length + 1) 0 ⟨[], []⟩ rfl hR.arrays (fun g hg => ⟨hR.funcs g hg, right_some hr g hg, hn g hg⟩) (by omega) (by have := hR.alen; simp; omega) hR.flen hcode hat
  unfold parseV
  rw [if_pos t1, q3]
  exact ⟨rfl, q1, q2⟩
end Go.Proofs.YteeofakohenpoaaDoor

/- What is read may be. -/
namespace Go.Proofs.YteeofakohenpoaaDoor
open Go.Sx
set_option linter.unusedVariables false
set_option linter.unusedSimpArgs false
set_option maxRecDepth 100000

theorem run_pc {s : ByteArray} : ∀ {l : List Tok} {a : Nat} {r : Int × Int}, a ≤ s.size → Run s a l r → ∀ t, t ∈ l → Pc t.k (s.extract t.f.toNat t.t.toNat)
  | [], a, r, _, _, t, ht => by cases ht
  | q :: l, a, r, ha, h, t, ht => by
    obtain ⟨h1, h2, h3, h4, h5⟩ := h
    rcases List.mem_cons.1 ht with rfl | ht
    · exact pc_of ha h1
    · exact run_pc (by omega) h5 t ht
theorem num_range (s : ByteArray) : inI64 (numV s).1 := by
  unfold numV inI64
  dsimp only
  split
  · dsimp only; omega
  · split
    · dsimp only; omega
    · split
      · rename_i h
        dsimp only; omega
      · split
        · rename_i h
          dsimp only; omega
        · dsimp only; omega
theorem kind_is {b : ByteArray} (h : kindOf b = 1) : okN b = true := by
  unfold kindOf at h
  split at h
  · cases h
  · rename_i hw
    split at h
    · rename_i hn
      unfold okN
      rw [hn]
      simpa using hw
    · split at h <;> cases h
/-- Every token that is a name is one. -/
def NamesOK (s : ByteArray) (l : List Tok) : Prop := ∀ n, isV l n 1 = true → okN (txV s l n) = true
theorem names_ok {s : ByteArray} (h : (allV s).2.2 = 0) : NamesOK s (allV s).1 := fun n hn => by
  obtain ⟨hz, hb, r, _, hr⟩ := all_run h
  have hlt := isV_lt hn
  have hk : ((allV s).1.getD n tok0).k = 1 := by
    unfold isV at hn
    simp only [Bool.and_eq_true, decide_eq_true_eq] at hn
    exact hn.2
  have hm : (allV s).1.getD n tok0 ∈ (allV s).1 := getD_mem hlt
  have hp := run_pc (Nat.zero_le _) hr _ hm
  rw [hk] at hp
  unfold txV
  rw [if_pos hlt]
  obtain ⟨_, _, _, h4⟩ := hp
  rcases h4 with ⟨_, _, h5⟩ | ⟨_, _, h5, _⟩
  · exact absurd h5 (by decide)
  · exact kind_is h5
theorem right_of_in {x : Ins} {n : Int} {d r a : Bool} (hs : shapeV x.kind = some (n, d, r, a)) (h3 : x.kind ≠ 3) (hi : RIn x n d r a) (ho : x.kind = 2 → (opName x.op).data.toList ≠ []) : rightI x = true := by
  have c1 : (decide (x.op ≠ 0) != decide (x.kind = 2)) = false := by
    by_cases e : x.op = 0
    · have : ¬ x.kind = 2 := fun h => (hi.op.2 h) e
      simp [e, this]
    · have := hi.op.1 e
      simp [e, this]
  have c2 : (decide (x.op ≠ 0) && decide ((opName x.op).data.toList = [])) = false := by
    by_cases e : x.op = 0
    · simp [e]
    · have := ho (hi.op.1 e)
      simp only [this, decide_false, Bool.and_false]
  have c3 : (decide (x.num ≠ 0) && decide (x.kind ≠ 1)) = false := by
    by_cases e : x.num = 0
    · simp [e]
    · have := hi.num e
      simp [this]
  unfold rightI
  rw [c1, c2, c3, hi.args, hi.frm, if_neg (by simp [allN]), if_neg h3, hs]
  dsimp only
  rw [hi.dst, hi.ref, hi.alt]
  have l1 := hi.alen.1
  have l2 := hi.alen.2
  have e1 : (decide (0 ≤ n) && decide ((x.args.length : Int) ≠ n)) = false := by
    by_cases e : 0 ≤ n
    · simp [l1 e]
    · simp [e]
  rw [e1, decide_eq_false (show ¬ 6 < x.args.length by omega)]
  rfl
theorem right_of_phi {x : Ins} (h3 : x.kind = 3) (hp : RPhi x) : rightI x = true := by
  unfold rightI
  rw [hp.op, hp.num, h3, hp.args, hp.frm, if_neg (by decide), if_pos rfl, hp.dst, hp.ref, hp.alt]
  have h1 := hp.len
  rw [decide_eq_true h1.1, decide_eq_true h1.2.1, decide_eq_true h1.2.2]
  rfl
theorem bnd_ok {α β : Type} {r : Except (Int × Int) (Nat × α)} {k : Nat → α → Except (Int × Int) (Nat × β)} {z : Nat × β} (h : bnd r k = .ok z) : ∃ n a, r = .ok (n, a) ∧ k n a = .ok z := by
  rcases r with e | ⟨n, a⟩
  · cases h
  · exact ⟨n, a, rfl, h⟩
theorem close_ok {α : Type} {s : ByteArray} {l : List Tok} {b : UInt8} {r : Except (Int × Int) (Nat × α)} {n : Nat} {o : α} (h : closeV s l b r = .ok (n, o)) : ∃ m, r = .ok (m, o) := by
  rcases r with e | ⟨m, q⟩
  · cases h
  · unfold closeV at h
    dsimp only at h
    split at h
    · injection h with h; obtain ⟨_, rfl⟩ := Prod.mk.inj h; exact ⟨m, rfl⟩
    · cases h
theorem opn_z (o : Int) (h : 0 ≤ o) : decide ((opName o).data.toList = []) = (decide (o < 1) || decide (12 < o)) := by
  unfold opName
  by_cases h13 : 13 ≤ o
  · rw [if_pos h13, decide_eq_true (show 12 < o by omega)]
    simp
  · rw [if_neg h13]
    have : ∀ n, n < 13 → decide ((opAt n).data.toList = []) = (decide ((n : Int) < 1) || decide (12 < (n : Int))) := by decide +kernel
    have h2 := this o.toNat (by omega)
    rwa [show ((o.toNat : Nat) : Int) = o by omega] at h2
theorem opF_lt (b : List UInt8) : ∀ (k i : Nat), i + k ≤ 13 → opF b k i < 13
  | 0, i, _ => by rw [opF]; omega
  | k + 1, i, h => by
    rw [opF]
    split
    · omega
    · exact opF_lt b k (i + 1) (by omega)
theorem opV_lt (w : ByteArray) : opV w < 13 := opF_lt _ 13 0 (by omega)
section
variable {s : ByteArray} {l : List Tok} (hN : NamesOK s l)
include hN
theorem g_nm {n n' : Nat} {w : ByteArray} (h : nmV s l n = .ok (n', w)) : okN w = true := by
  unfold nmV at h
  split at h
  · rename_i hi
    injection h with h; obtain ⟨_, rfl⟩ := Prod.mk.inj h
    exact hN n hi
  · cases h
theorem g_namesF : ∀ (f n k : Nat) (o : List ByteArray) {n' : Nat} {q : List ByteArray}, allN o = true → o.length = k → k ≤ 6 → namesF s l f n k o = .ok (n', q) → allN q = true ∧ q.length ≤ 6
  | 0, _, _, _, _, _, _, _, _, h => by cases h
  | f + 1, n, k, o, n', q, ho, hk, h6, h => by
    rw [namesF] at h
    split at h
    · rename_i hi
      split at h
      · cases h
      · have ho2 : allN (o ++ [txV s l n]) = true := by
          unfold allN at ho ⊢
          rw [List.all_append, ho]
          simp [hN n hi]
        split at h
        · exact g_namesF f (n + 2) (k + 1) _ ho2 (by simp; omega) (by omega) h
        · injection h with h; obtain ⟨_, rfl⟩ := Prod.mk.inj h
          exact ⟨ho2, by simp; omega⟩
    · cases h
theorem g_names {n n' : Nat} {q : List ByteArray} (h : namesV s l n = .ok (n', q)) : allN q = true ∧ q.length ≤ 6 := by
  unfold namesV at h
  split at h
  · split at h
    · injection h with h; obtain ⟨_, rfl⟩ := Prod.mk.inj h
      exact ⟨rfl, by simp⟩
    · obtain ⟨m, hm⟩ := close_ok h
      exact g_namesF hN _ _ 0 [] rfl rfl (by omega) hm
  · cases h
/-- A phi on the way. -/
structure PhG (a : Int) (d : ByteArray) (x : Ins) : Prop where
  eq : x = ⟨3, 0, d, .empty, .empty, x.args, x.frm, 0, a⟩
  args : allN x.args = true
  frm : allN x.frm = true
  len : x.frm.length = x.args.length
theorem g_pairsF {a : Int} {d : ByteArray} : ∀ (f n k : Nat) (x : Ins) {n' : Nat} {y : Ins}, PhG a d x → x.frm.length = k → k ≤ 64 → pairsF s l f n k x = .ok (n', y) → PhG a d y ∧ 1 ≤ y.frm.length ∧ y.frm.length ≤ 64
  | 0, _, _, _, _, _, _, _, _, h => by cases h
  | f + 1, n, k, x, n', y, hx, hk, h64, h => by
    rw [pairsF] at h
    split at h
    · cases h
    · rename_i hno
      obtain ⟨n1, x1, hp, h⟩ := bnd_ok h
      unfold pairV at hp
      obtain ⟨m1, w1, p1, hp⟩ := bnd_ok hp
      obtain ⟨m2, w2, p2, hp⟩ := bnd_ok hp
      obtain ⟨m3, w3, p3, hp⟩ := bnd_ok hp
      injection hp with hp
      obtain ⟨rfl, rfl⟩ := Prod.mk.inj hp
      have hlt : k < 64 := by
        have hi : isV l n 1 = true := by
          unfold nmV at p1
          split at p1
          · assumption
          · cases p1
        have : ¬ 64 ≤ k := fun h => hno ⟨hi, h⟩
        omega
      have hx1 : PhG a d { x with frm := x.frm ++ [w1], args := x.args ++ [w3] } := by
        refine ⟨?_, ?_, ?_, ?_⟩
        · rw [hx.eq]
        · have := hx.args
          unfold allN at this ⊢
          rw [List.all_append, this]
          simp [g_nm hN p3]
        · have := hx.frm
          unfold allN at this ⊢
          rw [List.all_append, this]
          simp [g_nm hN p1]
        · have := hx.len; simp; omega
      split at h
      · exact g_pairsF f _ (k + 1) _ hx1 (by simp; omega) (by omega) h
      · injection h with h; obtain ⟨_, rfl⟩ := Prod.mk.inj h
        exact ⟨hx1, by simp, by simp; omega⟩
theorem g_value {n n' : Nat} {a : Int} {d : ByteArray} {x : Ins} (hd : okN d = true) (h : valueV s l n { ins0 a with dst := d } = .ok (n', x)) : rightI x = true ∧ inI64 x.num := by
  have z0 : inI64 0 := by unfold inI64; omega
  have hdt : fitsV d true = true := by unfold fitsV; rw [hd]; rfl
  have hrt : ∀ {w : ByteArray}, okN w = true → fitsV w true = true := fun h => by unfold fitsV; rw [h]; rfl
  have one : ∀ {w : ByteArray}, okN w = true → allN [w] = true := fun h => by unfold allN; simp [h]
  unfold valueV at h
  split at h
  · rename_i hop
    obtain ⟨n1, x1, h1, h⟩ := bnd_ok h
    obtain ⟨m1, w1, p1, h1⟩ := bnd_ok h1
    injection h1 with h1; obtain ⟨rfl, rfl⟩ := Prod.mk.inj h1
    obtain ⟨m2, w2, p2, h2⟩ := bnd_ok h
    injection h2 with h2; obtain ⟨rfl, rfl⟩ := Prod.mk.inj h2
    have hlt : opV (txV s l n) < 13 := opV_lt _
    have hne : (opName ((opV (txV s l n) : Nat) : Int)).data.toList ≠ [] := by
      intro e
      have := opn_z ((opV (txV s l n) : Nat) : Int) (by omega)
      rw [decide_eq_true e] at this
      simp only [Bool.true_eq, Bool.or_eq_true, decide_eq_true_eq] at this
      omega
    refine ⟨right_of_in (n := 2) (d := true) (r := false) (a := false) rfl (by show (2 : Int) ≠ 3; decide) ⟨?_, rfl, ⟨fun _ => rfl, by show 2 ≤ 6; decide⟩, hdt, rfl, rfl, ?_, fun h => absurd rfl h⟩ fun _ => hne, z0⟩
    · unfold allN; simp [ins0, g_nm hN p1, g_nm hN p2]
    · constructor
      · intro _; rfl
      · intro _
        show ((opV (txV s l n) : Nat) : Int) ≠ 0
        omega
  · unfold wordV at h
    split at h
    · unfold constV at h
      split at h
      · injection h with h; obtain ⟨_, rfl⟩ := Prod.mk.inj h
        exact ⟨right_of_in (n := 0) (d := true) (r := false) (a := false) rfl (by show (1 : Int) ≠ 3; decide) ⟨rfl, rfl, ⟨fun _ => rfl, by show 0 ≤ 6; decide⟩, hdt, rfl, rfl, ⟨fun h => absurd rfl h, fun h => absurd h (by show ¬ (1 : Int) = 2; decide)⟩, fun _ => rfl⟩ (fun h => absurd h (by show ¬ (1 : Int) = 2; decide)), num_range _⟩
      · cases h
    split at h
    · obtain ⟨n1, x1, h1, h⟩ := bnd_ok h
      obtain ⟨m1, w1, p1, h1⟩ := bnd_ok h1
      injection h1 with h1; obtain ⟨rfl, rfl⟩ := Prod.mk.inj h1
      obtain ⟨m2, w2, p2, h2⟩ := bnd_ok h
      injection h2 with h2; obtain ⟨rfl, rfl⟩ := Prod.mk.inj h2
      exact ⟨right_of_in (n := 1) (d := true) (r := true) (a := false) rfl (by show (4 : Int) ≠ 3; decide) ⟨one (g_nm hN p2), rfl, ⟨fun _ => rfl, by show 1 ≤ 6; decide⟩, hdt, hrt (g_nm hN p1), rfl, ⟨fun h => absurd rfl h, fun h => absurd h (by show ¬ (4 : Int) = 2; decide)⟩, fun h => absurd rfl h⟩ (fun h => absurd h (by show ¬ (4 : Int) = 2; decide)), z0⟩
    split at h
    · obtain ⟨n1, x1, h1, h⟩ := bnd_ok h
      obtain ⟨m1, w1, p1, h1⟩ := bnd_ok h1
      injection h1 with h1; obtain ⟨rfl, rfl⟩ := Prod.mk.inj h1
      obtain ⟨m2, w2, p2, h2⟩ := bnd_ok h
      injection h2 with h2; obtain ⟨rfl, rfl⟩ := Prod.mk.inj h2
      exact ⟨right_of_in (n := 1) (d := true) (r := true) (a := false) rfl (by show (5 : Int) ≠ 3; decide) ⟨one (g_nm hN p2), rfl, ⟨fun _ => rfl, by show 1 ≤ 6; decide⟩, hdt, hrt (g_nm hN p1), rfl, ⟨fun h => absurd rfl h, fun h => absurd h (by show ¬ (5 : Int) = 2; decide)⟩, fun h => absurd rfl h⟩ (fun h => absurd h (by show ¬ (5 : Int) = 2; decide)), z0⟩
    split at h
    · obtain ⟨m1, w1, p1, h1⟩ := bnd_ok h
      injection h1 with h1; obtain ⟨rfl, rfl⟩ := Prod.mk.inj h1
      exact ⟨right_of_in (n := 0) (d := true) (r := true) (a := false) rfl (by show (8 : Int) ≠ 3; decide) ⟨rfl, rfl, ⟨fun _ => rfl, by show 0 ≤ 6; decide⟩, hdt, hrt (g_nm hN p1), rfl, ⟨fun h => absurd rfl h, fun h => absurd h (by show ¬ (8 : Int) = 2; decide)⟩, fun h => absurd rfl h⟩ (fun h => absurd h (by show ¬ (8 : Int) = 2; decide)), z0⟩
    split at h
    · obtain ⟨n1, x1, h1, h⟩ := bnd_ok h
      obtain ⟨m1, w1, p1, h1⟩ := bnd_ok h1
      injection h1 with h1; obtain ⟨rfl, rfl⟩ := Prod.mk.inj h1
      obtain ⟨m2, w2, p2, h2⟩ := bnd_ok h
      injection h2 with h2; obtain ⟨rfl, rfl⟩ := Prod.mk.inj h2
      obtain ⟨q1, q2⟩ := g_names hN p2
      exact ⟨right_of_in (n := -1) (d := true) (r := true) (a := false) rfl (by show (7 : Int) ≠ 3; decide) ⟨q1, rfl, ⟨fun h => absurd h (by decide), q2⟩, hdt, hrt (g_nm hN p1), rfl, ⟨fun h => absurd rfl h, fun h => absurd h (by show ¬ (7 : Int) = 2; decide)⟩, fun h => absurd rfl h⟩ (fun h => absurd h (by show ¬ (7 : Int) = 2; decide)), z0⟩
    split at h
    · obtain ⟨n1, x1, h1, h⟩ := bnd_ok h
      obtain ⟨m1, w1, p1, h1⟩ := bnd_ok h1
      injection h1 with h1; obtain ⟨rfl, rfl⟩ := Prod.mk.inj h1
      obtain ⟨m2, w2, p2, h2⟩ := bnd_ok h
      injection h2 with h2; obtain ⟨rfl, rfl⟩ := Prod.mk.inj h2
      exact ⟨right_of_in (n := 1) (d := true) (r := true) (a := false) rfl (by show (10 : Int) ≠ 3; decide) ⟨one (g_nm hN p1), rfl, ⟨fun _ => rfl, by show 1 ≤ 6; decide⟩, hdt, hrt (g_nm hN p2), rfl, ⟨fun h => absurd rfl h, fun h => absurd h (by show ¬ (10 : Int) = 2; decide)⟩, fun h => absurd rfl h⟩ (fun h => absurd h (by show ¬ (10 : Int) = 2; decide)), z0⟩
    split at h
    · obtain ⟨n1, _, h1, h⟩ := bnd_ok h
      obtain ⟨m, hm⟩ := close_ok h
      obtain ⟨g1, g2, g3⟩ := g_pairsF hN (a := a) (d := d) _ _ 0 _ ⟨rfl, rfl, rfl, rfl⟩ rfl (by omega) hm
      have e := g1.eq
      have k3 : x.kind = 3 := by rw [e]
      have o0 : x.op = 0 := by rw [e]
      have d0 : x.dst = d := by rw [e]
      have r0 : x.ref = .empty := by rw [e]
      have a0 : x.alt = .empty := by rw [e]
      have m0 : x.num = 0 := by rw [e]
      exact ⟨right_of_phi k3 ⟨g1.args, g1.frm, by rw [d0]; exact hd, r0, a0, ⟨g1.len, g2, g3⟩, o0, m0⟩, by rw [m0]; exact z0⟩
    · cases h
end
end Go.Proofs.YteeofakohenpoaaDoor

/- What is read may be: programs; the law on what is read and written. -/
namespace Go.Proofs.YteeofakohenpoaaDoor
open Go.Sx
set_option linter.unusedVariables false
set_option linter.unusedSimpArgs false
set_option maxRecDepth 100000

theorem ok_inj {α : Type} {a b : Nat × α} (h : (Except.ok a : Except (Int × Int) (Nat × α)) = .ok b) : a = b := by cases h; rfl
section
variable {s : ByteArray} {l : List Tok} (hN : NamesOK s l)
include hN
theorem g_instr {n n' c : Nat} {x : Ins} (h : instrV s l n c = .ok (n', x)) : rightI x = true ∧ inI64 x.num ∧ c < 4096 := by
  have z0 : inI64 0 := by unfold inI64; omega
  have hrt : ∀ {w : ByteArray}, okN w = true → fitsV w true = true := fun h => by unfold fitsV; rw [h]; rfl
  have one : ∀ {w : ByteArray}, okN w = true → allN [w] = true := fun h => by unfold allN; simp [h]
  unfold instrV at h
  split at h
  · cases h
  split at h
  · cases h
  split at h
  · cases h
  rename_i hc
  have hc : c < 4096 := by omega
  split at h
  · rename_i g hg
    unfold actV at hg
    split at hg
    · obtain rfl := Option.some.inj hg
      unfold act1V at h
      dsimp only at h
      obtain ⟨m1, w1, p1, h1⟩ := bnd_ok h
      obtain ⟨m2, x2, p2, h2⟩ := bnd_ok h1
      obtain ⟨m3, x3, p3, h3⟩ := bnd_ok h2
      obtain ⟨m4, w4, p4, qp2⟩ := bnd_ok p2
      obtain ⟨m5, w5, p5, qp3⟩ := bnd_ok p3
      obtain ⟨rfl, rfl⟩ := Prod.mk.inj (ok_inj qp2)
      obtain ⟨rfl, rfl⟩ := Prod.mk.inj (ok_inj qp3)
      obtain ⟨rfl, rfl⟩ := Prod.mk.inj (ok_inj h3)
      refine ⟨right_of_in (n := 2) (d := false) (r := true) (a := false) rfl (by show (6 : Int) ≠ 3; decide) ⟨?_, rfl, ⟨fun _ => rfl, by show 2 ≤ 6; decide⟩, rfl, hrt (g_nm hN p1), rfl, ⟨fun h => absurd rfl h, fun h => absurd h (by show ¬ (6 : Int) = 2; decide)⟩, fun h => absurd rfl h⟩ (fun h => absurd h (by show ¬ (6 : Int) = 2; decide)), z0, hc⟩
      unfold allN; simp [ins0, g_nm hN p4, g_nm hN p5]
    split at hg
    · obtain rfl := Option.some.inj hg
      unfold act2V at h
      dsimp only at h
      obtain ⟨m1, w1, p1, h1⟩ := bnd_ok h
      obtain ⟨m2, x2, p2, h2⟩ := bnd_ok h1
      obtain ⟨m4, w4, p4, qp2⟩ := bnd_ok p2
      obtain ⟨rfl, rfl⟩ := Prod.mk.inj (ok_inj qp2)
      obtain ⟨rfl, rfl⟩ := Prod.mk.inj (ok_inj h2)
      exact ⟨right_of_in (n := 1) (d := false) (r := true) (a := false) rfl (by show (9 : Int) ≠ 3; decide) ⟨one (g_nm hN p4), rfl, ⟨fun _ => rfl, by show 1 ≤ 6; decide⟩, rfl, hrt (g_nm hN p1), rfl, ⟨fun h => absurd rfl h, fun h => absurd h (by show ¬ (9 : Int) = 2; decide)⟩, fun h => absurd rfl h⟩ (fun h => absurd h (by show ¬ (9 : Int) = 2; decide)), z0, hc⟩
    split at hg
    · obtain rfl := Option.some.inj hg
      unfold act3V at h
      dsimp only at h
      obtain ⟨m1, w1, p1, h1⟩ := bnd_ok h
      obtain ⟨rfl, rfl⟩ := Prod.mk.inj (ok_inj h1)
      exact ⟨right_of_in (n := 0) (d := false) (r := true) (a := false) rfl (by show (11 : Int) ≠ 3; decide) ⟨rfl, rfl, ⟨fun _ => rfl, by show 0 ≤ 6; decide⟩, rfl, hrt (g_nm hN p1), rfl, ⟨fun h => absurd rfl h, fun h => absurd h (by show ¬ (11 : Int) = 2; decide)⟩, fun h => absurd rfl h⟩ (fun h => absurd h (by show ¬ (11 : Int) = 2; decide)), z0, hc⟩
    split at hg
    · obtain rfl := Option.some.inj hg
      unfold act4V at h
      dsimp only at h
      obtain ⟨m1, x1, p1, h1⟩ := bnd_ok h
      obtain ⟨m4, w4, p4, qp1⟩ := bnd_ok p1
      obtain ⟨rfl, rfl⟩ := Prod.mk.inj (ok_inj qp1)
      obtain ⟨m2, w2, p2, h2⟩ := bnd_ok h1
      obtain ⟨m3, w3, p3, h3⟩ := bnd_ok h2
      obtain ⟨rfl, rfl⟩ := Prod.mk.inj (ok_inj h3)
      exact ⟨right_of_in (n := 1) (d := false) (r := true) (a := true) rfl (by show (12 : Int) ≠ 3; decide) ⟨one (g_nm hN p4), rfl, ⟨fun _ => rfl, by show 1 ≤ 6; decide⟩, rfl, hrt (g_nm hN p2), hrt (g_nm hN p3), ⟨fun h => absurd rfl h, fun h => absurd h (by show ¬ (12 : Int) = 2; decide)⟩, fun h => absurd rfl h⟩ (fun h => absurd h (by show ¬ (12 : Int) = 2; decide)), z0, hc⟩
    split at hg
    · obtain rfl := Option.some.inj hg
      obtain ⟨m1, x1, p1, h1⟩ := bnd_ok h
      obtain ⟨m4, w4, p4, qp1⟩ := bnd_ok p1
      obtain ⟨rfl, rfl⟩ := Prod.mk.inj (ok_inj qp1)
      obtain ⟨rfl, rfl⟩ := Prod.mk.inj (ok_inj h1)
      exact ⟨right_of_in (n := 1) (d := false) (r := false) (a := false) rfl (by show (13 : Int) ≠ 3; decide) ⟨one (g_nm hN p4), rfl, ⟨fun _ => rfl, by show 1 ≤ 6; decide⟩, rfl, rfl, rfl, ⟨fun h => absurd rfl h, fun h => absurd h (by show ¬ (13 : Int) = 2; decide)⟩, fun h => absurd rfl h⟩ (fun h => absurd h (by show ¬ (13 : Int) = 2; decide)), z0, hc⟩
    · cases hg
  · obtain ⟨m1, w1, p1, h1⟩ := bnd_ok h
    obtain ⟨m2, w2, p2, h2⟩ := bnd_ok h1
    obtain ⟨g1, g2⟩ := g_value hN (g_nm hN p1) h2
    exact ⟨g1, g2, hc⟩
def InsG (x : Ins) : Prop := rightI x = true ∧ inI64 x.num
theorem g_code : ∀ (f n c : Nat) (xs : List Ins) {n' c' : Nat} {ys : List Ins}, c ≤ 4096 → (∀ x, x ∈ xs → InsG x) → codeF s l f n c xs = .ok (n', (c', ys)) → (∀ x, x ∈ ys → InsG x) ∧ c' ≤ 4096 ∧ c' + xs.length = c + ys.length
  | 0, _, _, _, _, _, _, _, _, h => by cases h
  | f + 1, n, c, xs, n', c', ys, hc, hx, h => by
    rw [codeF] at h
    split at h
    · obtain ⟨_, h⟩ := Prod.mk.inj (ok_inj h)
      obtain ⟨rfl, rfl⟩ := Prod.mk.inj h
      exact ⟨hx, hc, rfl⟩
    · obtain ⟨m, x, p, h⟩ := bnd_ok h
      obtain ⟨q1, q2, q3⟩ := g_instr hN p
      obtain ⟨k1, k2, k3⟩ := g_code f m (c + 1) (xs ++ [x]) (by omega) (fun y hy => by
        rcases List.mem_append.1 hy with hy | hy
        · exact hx y hy
        · rw [List.mem_singleton.1 hy]; exact ⟨q1, q2⟩) h
      refine ⟨k1, k2, ?_⟩
      simp only [List.length_append, List.length_cons, List.length_nil] at k3
      omega
structure BlkG (b : Blk) : Prop where
  name : okN b.name = true
  code : ∀ x, x ∈ b.code → InsG x
theorem g_block {n c n' c' : Nat} {b : Blk} (hc : c ≤ 4096) (h : blockV s l n c = .ok (n', (c', b))) : BlkG b ∧ c' ≤ 4096 ∧ c' = c + b.code.length := by
  unfold blockV at h
  obtain ⟨m1, w1, p1, h⟩ := bnd_ok h
  obtain ⟨m2, w2, p2, h⟩ := bnd_ok h
  obtain ⟨m3, ⟨c3, ys⟩, p3, h⟩ := bnd_ok h
  obtain ⟨_, h⟩ := Prod.mk.inj (ok_inj h)
  obtain ⟨rfl, rfl⟩ := Prod.mk.inj h
  obtain ⟨k1, k2, k3⟩ := g_code hN _ _ _ [] hc (fun x hx => by cases hx) p3
  simp only [List.length_nil] at k3
  exact ⟨⟨g_nm hN p1, k1⟩, k2, by show c3 = _; dsimp only; omega⟩
theorem g_blocks : ∀ (f n c : Nat) (bs : List Blk) {n' c' : Nat} {ys : List Blk}, c ≤ 4096 → bs.length ≤ 64 → (∀ b, b ∈ bs → BlkG b) → blocksF s l f n c bs = .ok (n', (c', ys)) → (∀ b, b ∈ ys → BlkG b) ∧ c' ≤ 4096 ∧ c' + cN bs = c + cN ys ∧ ys.length ≤ 64 ∧ bs.length ≤ ys.length
  | 0, _, _, _, _, _, _, _, _, _, h => by cases h
  | f + 1, n, c, bs, n', c', ys, hc, h64, hb, h => by
    rw [blocksF] at h
    split at h
    · split at h
      · cases h
      · rename_i hlt
        obtain ⟨m, ⟨c1, b⟩, p, h⟩ := bnd_ok h
        obtain ⟨q1, q2, q3⟩ := g_block hN hc p
        obtain ⟨k1, k2, k3, k4, k5⟩ := g_blocks f m c1 (bs ++ [b]) q2 (by simp; omega) (fun y hy => by
          rcases List.mem_append.1 hy with hy | hy
          · exact hb y hy
          · rw [List.mem_singleton.1 hy]; exact q1) h
        have e : cN (bs ++ [b]) = cN bs + b.code.length := by unfold cN; rw [List.map_append, List.sum_append]; simp
        simp only [List.length_append, List.length_cons, List.length_nil] at k5
        exact ⟨k1, k2, by omega, k4, by omega⟩
    · obtain ⟨_, h⟩ := Prod.mk.inj (ok_inj h)
      obtain ⟨rfl, rfl⟩ := Prod.mk.inj h
      exact ⟨hb, hc, rfl, h64, Nat.le_refl _⟩
structure FunG (f : Fun) : Prop where
  name : okN f.name = true
  params : allN f.params = true
  plen : f.params.length ≤ 6
  blen : 1 ≤ f.blocks.length ∧ f.blocks.length ≤ 64
  blocks : ∀ b, b ∈ f.blocks → BlkG b
theorem g_func {n c n' c' : Nat} {f : Fun} (hc : c ≤ 4096) (h : funcV s l n c = .ok (n', (c', f))) : FunG f ∧ c' ≤ 4096 ∧ c' = c + fN f := by
  unfold funcV at h
  obtain ⟨m1, w1, p1, h⟩ := bnd_ok h
  obtain ⟨m2, w2, p2, h⟩ := bnd_ok h
  obtain ⟨m3, w3, p3, h⟩ := bnd_ok h
  obtain ⟨m4, ⟨c4, b4⟩, p4, h⟩ := bnd_ok h
  obtain ⟨m5, ⟨c5, b5⟩, p5, h⟩ := bnd_ok h
  obtain ⟨m6, w6, p6, h⟩ := bnd_ok h
  obtain ⟨_, h⟩ := Prod.mk.inj (ok_inj h)
  obtain ⟨rfl, rfl⟩ := Prod.mk.inj h
  obtain ⟨q1, q2⟩ := g_names hN p2
  obtain ⟨r1, r2, r3⟩ := g_block hN hc p4
  obtain ⟨k1, k2, k3, k4, k5⟩ := g_blocks hN _ _ _ [b4] r2 (by simp) (fun y hy => by rw [List.mem_singleton.1 hy]; exact r1) p5
  have e : cN [b4] = b4.code.length := by simp [cN]
  have e2 : fN ⟨w1, w2, b5, atV s l n⟩ = cN b5 := rfl
  simp only [List.length_cons, List.length_nil] at k5
  exact ⟨⟨g_nm hN p1, q1, q2, ⟨by show 1 ≤ b5.length; omega, k4⟩, k1⟩, k2, by show c5 = _; rw [e2]; omega⟩
theorem g_arr {n n' : Nat} {a : Arr} (h : arrV s l n = .ok (n', a)) : arrOK a = true := by
  unfold arrV at h
  obtain ⟨m1, w1, p1, h⟩ := bnd_ok h
  split at h
  · split at h
    · cases h
    · rename_i hr
      obtain ⟨m2, w2, p2, h⟩ := bnd_ok h
      obtain ⟨_, rfl⟩ := Prod.mk.inj (ok_inj h)
      unfold arrOK
      rw [show okN w1 = true from g_nm hN p1, show okN w2 = true from g_nm hN p2]
      dsimp only
      rw [decide_eq_false (show ¬ (numV (txV s l m1)).1 < 1 by omega), decide_eq_false (show ¬ 256 < (numV (txV s l m1)).1 by omega)]
      rfl
  · cases h
structure PrgG (p : Prg) : Prop where
  alen : p.arrays.length ≤ 16
  flen : p.funcs.length ≤ 64
  arrays : ∀ a, a ∈ p.arrays → arrOK a = true
  funcs : ∀ f, f ∈ p.funcs → FunG f
  few : progN8 p.funcs ≤ 4096
theorem g_prog : ∀ (f n c : Nat) (p : Prg) {n' : Nat} {q : Prg}, PrgG p → c = progN8 p.funcs → progF s l f n c p = .ok (n', q) → PrgG q
  | 0, _, _, _, _, _, _, _, h => by cases h
  | f + 1, n, c, p, n', q, hp, hc, h => by
    have hfew := hp.few
    rw [progF] at h
    split at h
    · split at h
      · split at h
        · cases h
        · rename_i h16
          obtain ⟨m, a, k, h⟩ := bnd_ok h
          have ha := g_arr hN k
          exact g_prog f m c ⟨p.arrays ++ [a], p.funcs⟩ ⟨by simp; omega, hp.flen, fun y hy => by
            rcases List.mem_append.1 hy with hy | hy
            · exact hp.arrays y hy
            · rw [List.mem_singleton.1 hy]; exact ha, hp.funcs, hp.few⟩ hc h
      · split at h
        · split at h
          · cases h
          · rename_i h64
            obtain ⟨m, ⟨c1, g⟩, k, h⟩ := bnd_ok h
            obtain ⟨q1, q2, q3⟩ := g_func hN (by omega) k
            have e : progN8 (p.funcs ++ [g]) = progN8 p.funcs + fN g := by
              show ((p.funcs ++ [g]).map fN).sum = (p.funcs.map fN).sum + fN g
              rw [List.map_append, List.sum_append]; simp
            exact g_prog f m c1 ⟨p.arrays, p.funcs ++ [g]⟩ ⟨hp.alen, by simp; omega, hp.arrays, fun y hy => by
              rcases List.mem_append.1 hy with hy | hy
              · exact hp.funcs y hy
              · rw [List.mem_singleton.1 hy]; exact q1, by show progN8 (p.funcs ++ [g]) ≤ 4096; omega⟩ (by show c1 = progN8 (p.funcs ++ [g]); omega) h
        · cases h
    · obtain ⟨_, rfl⟩ := Prod.mk.inj (ok_inj h)
      exact hp
end
theorem prg_right {p : Prg} (h : PrgG p) : rightP p = true ∧ ∀ f, f ∈ p.funcs → ∀ b, b ∈ f.blocks → ∀ x, x ∈ b.code → inI64 x.num := by
  refine ⟨?_, fun f hf b hb x hx => (((h.funcs f hf).blocks b hb).code x hx).2⟩
  have e1 : p.arrays.all arrOK = true := List.all_eq_true.2 h.arrays
  have e2 : p.funcs.all funOK = true := List.all_eq_true.2 fun f hf => by
    have g := h.funcs f hf
    have e3 : f.blocks.all blkOK = true := List.all_eq_true.2 fun b hb => by
      have k := g.blocks b hb
      unfold blkOK
      rw [k.name, List.all_eq_true.2 fun x hx => (k.code x hx).1]; rfl
    unfold funOK
    have l1 := g.plen
    have l2 := g.blen
    rw [e3, g.name, g.params, decide_eq_false (show ¬ 6 < f.params.length by omega), decide_eq_false (show ¬ f.blocks.length < 1 by omega), decide_eq_false (show ¬ 64 < f.blocks.length by omega)]
    rfl
  unfold rightP
  have l1 := h.alen
  have l2 := h.flen
  rw [e1, e2, decide_eq_true h.few, decide_eq_false (show ¬ 16 < p.arrays.length by omega), decide_eq_false (show ¬ 64 < p.funcs.length by omega)]
  rfl
/-- What is read may be. -/
theorem parse_right {s : ByteArray} (h : (parseV s).2.2 = 0) : rightP (parseV s).1 = true ∧ ∀ f, f ∈ (parseV s).1.funcs → ∀ b, b ∈ f.blocks → ∀ x, x ∈ b.code → inI64 x.num := by
  unfold parseV at h ⊢
  split at h
  · rename_i h0
    rw [if_pos h0]
    rcases hV : progF s (allV s).1 ((allV s).1.length + 1) 0 0 ⟨[], []⟩ with ⟨a, e⟩ | ⟨n', q⟩
    · rw [hV] at h
      have h : e = 0 := h
      exact prg_right (p := ⟨[], []⟩) ⟨Nat.zero_le _, Nat.zero_le _, fun a ha => (by simp at ha), fun f hf => (by simp at hf), Nat.zero_le _⟩
    · exact prg_right (g_prog (names_ok h0) _ _ _ ⟨[], []⟩ ⟨Nat.zero_le _, Nat.zero_le _, fun a ha => (by simp at ha), fun f hf => (by simp at hf), Nat.zero_le _⟩ rfl hV)
  · rename_i h0
    exact absurd h h0
/-! ### texts do not tell places -/
theorem textC_er : ∀ (l : List Ins) (acc : ByteArray), textC acc (l.map erI) = textC acc l
  | [], acc => rfl
  | x :: r, acc => textC_er r (putP acc (insLine x))
theorem textB_er : ∀ (l : List Blk) (acc : ByteArray), textB acc (l.map erB) = textB acc l
  | [], acc => rfl
  | b :: r, acc => by
    have h := textB_er r (textC (putP acc (blkLine b)) b.code)
    show textB (textC (putP acc (blkLine b)) (b.code.map erI)) (r.map erB) = _
    rw [textC_er]
    exact h
theorem textF_er : ∀ (l : List Fun) (acc : ByteArray), textF acc (l.map erF) = textF acc l
  | [], acc => rfl
  | f :: r, acc => by
    have h := textF_er r (putP (textB (putP acc (fnLine f)) f.blocks) ⟨#[125]⟩)
    show textF (putP (textB (putP acc (fnLine f)) (f.blocks.map erB)) ⟨#[125]⟩) (r.map erF) = _
    rw [textB_er]
    exact h
theorem textA_er : ∀ (l : List Arr) (acc : ByteArray), textA acc (l.map erA) = textA acc l
  | [], acc => rfl
  | a :: r, acc => textA_er r (putP acc (arrLine a))
theorem textP_er {p q : Prg} (h1 : p.arrays.map erA = q.arrays.map erA) (h2 : p.funcs.map erF = q.funcs.map erF) : textP p = textP q := by
  unfold textP
  rw [← textF_er p.funcs, ← textF_er q.funcs, ← textA_er p.arrays, ← textA_er q.arrays, h1, h2]
set_option maxHeartbeats 2000000 in
theorem back_spec8 (s : ByteArray) (hs : s.size ≤ okL) : Pure PG 3 [vs s] (vb true) [] := by
  refine Proc.mk (cfg 74) tysOK [] Tryd.func3 rfl (by kernel_rfl) rfl rfl rfl ?_
  intro C x
  unfold okL at hs
  refine x.cond rfl trivial (fun h => ?_) (fun h => ?_)
  · refine x.exit rfl trivial ?_
    exact ⟨.inr rfl, rfl, trivial, rfl⟩
  refine x.pure rfl trivial rfl (parse7_spec s (by omega)) ⟨rfl, trivial⟩ ?_
  have hpr := parse_right (s := s)
  have hsm := parse_small s
  obtain ⟨P, hP⟩ : ∃ P, parseV s = P := ⟨_, rfl⟩
  rw [hP] at hpr hsm ⊢
  refine x.cond rfl trivial (fun h1 => ?_) (fun h1 => ?_)
  · refine x.pure rfl trivial rfl awake8_spec trivial ?_
    refine x.exit rfl trivial ?_
    exact ⟨.inr rfl, rfl, trivial, rfl⟩
  have h1 : (!decide (P.2.2 = 0)) = false := h1
  have h1 : P.2.2 = 0 := by simpa using h1
  obtain ⟨r1, r2⟩ := hpr h1
  have hfit := right_fit r1 r2
  have hpp : printP P.1 = if 65536 < (textP P.1).size then (.empty, 2) else (textP P.1, 0) := by unfold printP; rw [if_pos r1]
  refine x.pure rfl trivial rfl (print_spec P.1 hfit) ⟨⟨veq0_d rfl, veq0_d rfl, trivial⟩, trivial⟩ ?_
  refine x.pure rfl trivial rfl (rightp_spec P.1 hfit) ⟨⟨veq0_d rfl, veq0_d rfl, trivial⟩, trivial⟩ ?_
  rw [hpp, r1]
  by_cases hz : 65536 < (textP P.1).size
  · rw [if_pos hz]
    refine x.cond rfl trivial (fun h2 => ?_) (fun h2 => ?_)
    · have h2 : (!true || (!decide ((2 : Int) = 0) && !decide ((2 : Int) = 2))) = true := h2
      simp at h2
    refine x.cond rfl trivial (fun h3 => ?_) (fun h3 => ?_)
    · refine x.pure rfl trivial rfl awake8_spec trivial ?_
      refine x.exit rfl trivial ?_
      exact ⟨.inr rfl, rfl, trivial, rfl⟩
    · have h3 : decide ((2 : Int) = 2) = false := h3
      simp at h3
  · rw [if_neg hz]
    refine x.cond rfl trivial (fun h2 => ?_) (fun h2 => ?_)
    · have h2 : (!true || (!decide ((0 : Int) = 0) && !decide ((0 : Int) = 2))) = true := h2
      simp at h2
    refine x.cond rfl trivial (fun h3 => ?_) (fun h3 => ?_)
    · have h3 : decide ((0 : Int) = 2) = true := h3
      simp at h3
    obtain ⟨t1, t2, t3⟩ := parse_text r1 r2 (by omega)
    have hpr2 := parse_right t1
    have hsm2 := parse_small (textP P.1)
    have hsame := sameB_er (a := P.1) (b := (parseV (textP P.1)).1) t2.symm t3.symm
    have htx := textP_er t2 t3
    refine x.pure rfl trivial rfl (parse7_spec (textP P.1) (by omega)) ⟨rfl, trivial⟩ ?_
    obtain ⟨Q, hQ⟩ : ∃ Q, parseV (textP P.1) = Q := ⟨_, rfl⟩
    rw [hQ] at t1 hpr2 hsm2 hsame htx ⊢
    obtain ⟨q1, q2⟩ := hpr2
    have hpq : printP Q.1 = (textP P.1, 0) := by unfold printP; rw [if_pos q1, htx, if_neg hz]
    refine x.pure rfl trivial rfl (print_spec Q.1 (right_fit q1 q2)) ⟨⟨veq0_d rfl, veq0_d rfl, trivial⟩, trivial⟩ ?_
    rw [hpq, t1]
    refine x.pureG rfl trivial rfl (fun _ => same_spec P.1 Q.1 false hsm hsm2) rfl ⟨⟨veq0_d rfl, veq0_d rfl, trivial⟩, ⟨veq0_d rfl, veq0_d rfl, trivial⟩, rfl, trivial⟩ ?_
    refine x.pureG rfl trivial rfl (fun _ => awake8_spec) rfl trivial ?_
    refine x.exit rfl trivial ?_
    refine ⟨.inr rfl, ?_, trivial, rfl⟩
    show (decide ((0 : Int) = 0) && sameB P.1 Q.1 false && decide ((0 : Int) = 0) && decide ((textP P.1).data.toList = (textP P.1).data.toList) && true) = true
    rw [hsame]
    simp
end Go.Proofs.YteeofakohenpoaaDoor

/- A copy of a program. -/
namespace Go.Proofs.YteeofakohenpoaaDoor
open Go.Sx
set_option linter.unusedVariables false
set_option linter.unusedSimpArgs false
set_option maxRecDepth 100000

theorem app_str0 (l : List ByteArray) (i : Nat) : app 0 (tab (List.replicate 0 [D.str .empty])) (fun i => [D.str (l.getD i .empty)]) i = [D.str (l.getD i .empty)] := by
  show (if i < 0 then [] else [D.str (l.getD (i - 0) .empty)]) = _
  rw [if_neg (by omega)]; rfl
theorem app_blk0 (l : List Blk) (i : Nat) : app 0 (tab (List.replicate 0 [D.str .empty, D.sl 0 0 fun x => [], D.int .i64 0])) (fun i => dBlk (l.getD i blk0)) i = dBlk (l.getD i blk0) := by
  show (if i < 0 then [] else dBlk (l.getD (i - 0) blk0)) = _
  rw [if_neg (by omega)]; rfl
theorem app_ins0 (l : List Ins) (i : Nat) : app 0 (tab (List.replicate 0 [D.int .u8 0, D.int .u8 0, D.str .empty, D.str .empty, D.str .empty, D.sl 0 0 fun x => [], D.sl 0 0 fun x => [], D.int .i64 0, D.int .i64 0])) (fun i => dIns (l.getD i (ins0 0))) i = dIns (l.getD i (ins0 0)) := by
  show (if i < 0 then [] else dIns (l.getD (i - 0) (ins0 0))) = _
  rw [if_neg (by omega)]; rfl
theorem dq_strs {n : Nat} {f : Nat → List D} (l : List ByteArray) (hn : n = l.length) (h : ∀ i, i < l.length → f i = [.str (l.getD i .empty)]) : DQ (.sl 1 n f) (dStrs l) := by
  subst hn
  exact .sl _ _ _ _ (fun i hi => by rw [h i hi]) (fun i j d d' hi h1 h2 => by
    rw [h i hi] at h1
    have := h1.symm.trans h2
    cases this; exact .refl _)
theorem put2_id {f : Nat → List D} {i o : Nat} {ds : List D} (h : setL (f i) o ds = some (f i)) (hl : ∀ k l, setL (f k) o ds = some l → l.length = (f k).length) (k : Nat) : put2 f i o ds k = f k := by
  unfold put2
  by_cases e : k = i
  · subst e
    rw [h]
    exact zipIte_pos rfl _ _ rfl
  · cases hs : setL (f k) o ds with
    | none => rfl
    | some l => exact zipIte_neg e _ _ (hl k l hs)
abbrev fnsC (fs : List Fun) : Ch := .vec 38 4 fs.length fun i => dFun (fs.getD i fun0)
set_option maxHeartbeats 8000000 in
theorem copy_spec (p : Prg) (h1 : p.arrays.length ≤ 1000) (h2 : p.funcs.length ≤ 1000) (h3 : ∀ f, f ∈ p.funcs → f.params.length * 16 ≤ okL ∧ f.blocks.length ≤ 1000 ∧ ∀ b, b ∈ f.blocks → b.code.length ≤ 100000 ∧ ∀ x, x ∈ b.code → x.args.length * 16 ≤ okL ∧ x.frm.length * 16 ≤ okL) : Pure PG 11 [prgV p] (prgV p) [] := by
  refine Proc.mk (cfg 93) tysOK [] Tryd.func11 rfl (by kernel_rfl) rfl rfl rfl ?_
  intro C x
  refine x.toLoop rfl (by simp only [AllP, big]; omega) ?_
  refine Sx.Go.freeze 3 ?_
  refine Go.ownB 2 1 38 4 (fun i => dFun (([] : List Fun).getD i fun0)) rfl rfl ?_
  refine x.loop (α := IW p.funcs.length) (fun y => ⟨[(1, .ptr 0 0), (2, .ptr 1 0), (3, .ptr 2 0), (4, vi (y.i : Int))], [(0, .box [.d (dArrs p.arrays), .d (dFuns p.funcs)]), (1, .box [.nils, .nils]), (2, .box [.d (dArrs p.arrays), .own 4]), (4, fnsC (p.funcs.take y.i))], 5⟩) (fun y => p.funcs.length - y.i) ⟨0, Nat.zero_le _⟩ rfl trivial ⟨⟨⟨rfl, rfl⟩, ⟨rfl, rfl⟩, ⟨rfl, rfl⟩, rfl, trivial⟩, ⟨⟨veq0_d rfl, veq0_d rfl, trivial⟩, ⟨trivial, trivial, trivial⟩, ⟨veq0_d rfl, rfl, trivial⟩, ⟨rfl, rfl, rfl, fun i hi => absurd hi (Nat.not_lt_zero _)⟩, trivial⟩, rfl⟩ (fun y => ?_)
  obtain ⟨i, hi⟩ := y
  change Go C _ ⟨[(1, .ptr 0 0), (2, .ptr 1 0), (3, .ptr 2 0), (4, vi (i : Int))], [(0, .box [.d (dArrs p.arrays), .d (dFuns p.funcs)]), (1, .box [.nils, .nils]), (2, .box [.d (dArrs p.arrays), .own 4]), (4, fnsC (p.funcs.take i))], 5⟩ _
  refine x.cond rfl trivial (fun h => ?_) (fun h => ?_)
  rotate_left
  · have h : ¬ (i : Int) < (p.funcs.length : Int) := of_decide_eq_false h
    obtain rfl : i = p.funcs.length := by omega
    rw [List.take_length]
    refine Sx.Go.freeze 4 ?_
    refine x.exit rfl trivial ?_
    exact ⟨.inr rfl, ⟨veq0_d rfl, veq0_d rfl, trivial⟩, trivial, rfl⟩
  have h : (i : Int) < (p.funcs.length : Int) := of_decide_eq_true h
  have h : i < p.funcs.length := by omega
  have hf := h3 _ (getD_mem (d := fun0) h)
  obtain ⟨f, hfe⟩ : ∃ f, p.funcs.getD i fun0 = f := ⟨_, rfl⟩
  have hfe2 : p.funcs.getD ((i : Int).toNat) fun0 = f := by rw [Int.toNat_natCast]; exact hfe
  rw [hfe] at hf
  obtain ⟨f1, f2, f3⟩ := hf
  unfold okL at f1
  refine x.toLoop rfl (by rw [hfe2]; simp only [AllP, big]; omega) ?_
  rw [hfe2]
  refine Sx.Go.freeze 6 ?_
  refine x.loop (α := IW f.blocks.length) (fun y => ⟨[(1, .ptr 0 0), (2, .ptr 1 0), (3, .ptr 2 0), (4, vi (i : Int)), (5, .ptr 5 0), (6, vi (y.i : Int))], [(0, .box [.d (dArrs p.arrays), .d (dFuns p.funcs)]), (1, .box [.nils, .nils]), (2, .box [.d (dArrs p.arrays), .own 4]), (4, fnsC (p.funcs.take i)), (5, .box [vs f.name, .d (dStrs f.params), .own 7, vi f.at_]), (7, blksC f.blocks)], 8⟩) (fun y => f.blocks.length - y.i) ⟨0, Nat.zero_le _⟩ rfl trivial ⟨⟨⟨rfl, rfl⟩, ⟨rfl, rfl⟩, ⟨rfl, rfl⟩, rfl, ⟨rfl, rfl⟩, rfl, trivial⟩, ⟨⟨veq0_d rfl, veq0_d rfl, trivial⟩, ⟨trivial, trivial, trivial⟩, ⟨veq0_d rfl, rfl, trivial⟩, ⟨rfl, rfl, rfl, fun _ _ => rfl⟩, ⟨rfl, ⟨Nat.zero_add _, fun _ => rfl, fun j hj => app_str0 _ j⟩, rfl, rfl, trivial⟩, ⟨rfl, rfl, Nat.zero_add _, fun j hj => app_blk0 _ j⟩, trivial⟩, rfl⟩ (fun y => ?_)
  obtain ⟨k, hk⟩ := y
  change Go C _ ⟨[(1, .ptr 0 0), (2, .ptr 1 0), (3, .ptr 2 0), (4, vi (i : Int)), (5, .ptr 5 0), (6, vi (k : Int))], [(0, .box [.d (dArrs p.arrays), .d (dFuns p.funcs)]), (1, .box [.nils, .nils]), (2, .box [.d (dArrs p.arrays), .own 4]), (4, fnsC (p.funcs.take i)), (5, .box [vs f.name, .d (dStrs f.params), .own 7, vi f.at_]), (7, blksC f.blocks)], 8⟩ _
  refine x.cond rfl trivial (fun h4 => ?_) (fun h4 => ?_)
  rotate_left
  · have h4 : ¬ (k : Int) < (f.blocks.length : Int) := of_decide_eq_false h4
    obtain rfl : k = f.blocks.length := by omega
    refine x.op rfl trivial ?_
    refine Sx.Go.freeze 7 ?_
    refine x.back rfl ?_ ⟨⟨i + 1, by omega⟩, by show p.funcs.length - (i + 1) < p.funcs.length - i; omega, ⟨⟨rfl, rfl⟩, ⟨rfl, rfl⟩, ⟨rfl, rfl⟩, ?_, trivial⟩, ⟨⟨veq0_d rfl, veq0_d rfl, trivial⟩, ⟨trivial, trivial, trivial⟩, ⟨veq0_d rfl, rfl, trivial⟩, ⟨rfl, rfl, ?_, fun z hz => ?_⟩, trivial⟩, rfl⟩
    · have ht : (p.funcs.take i).length ≤ 1000 := by rw [List.length_take]; omega
      simp only [AllP, big, inI64]
      omega
    · show VEq0 (vi ((i : Int) + 1)) (vi ((i + 1 : Nat) : Int)); rw [Int.natCast_add]; rfl
    · show (p.funcs.take i).length + 1 = (p.funcs.take (i + 1)).length
      rw [List.length_take, List.length_take]; omega
    · show _ = dFun ((p.funcs.take (i + 1)).getD z fun0)
      have e : p.funcs.take (i + 1) = p.funcs.take i ++ [f] := by
        rw [List.take_succ_eq_append_getElem h, ← hfe, List.getD_eq_getElem?_getD, List.getElem?_eq_getElem h]; rfl
      rw [e]
      exact app_gen dFun 4 (fun _ => rfl) fun0 (p.funcs.take i) f z hz
  have h4 : (k : Int) < (f.blocks.length : Int) := of_decide_eq_true h4
  have h4 : k < f.blocks.length := by omega
  have hb := f3 _ (getD_mem (d := blk0) h4)
  obtain ⟨b, hbe⟩ : ∃ b, f.blocks.getD k blk0 = b := ⟨_, rfl⟩
  have hbe2 : f.blocks.getD ((k : Int).toNat) blk0 = b := by rw [Int.toNat_natCast]; exact hbe
  rw [hbe] at hb
  obtain ⟨b1, b2⟩ := hb
  refine x.loop (α := IW b.code.length) (fun y => ⟨[(1, .ptr 0 0), (2, .ptr 1 0), (3, .ptr 2 0), (4, vi (i : Int)), (5, .ptr 5 0), (6, vi (k : Int)), (7, .own 8), (8, vi (y.i : Int))], [(0, .box [.d (dArrs p.arrays), .d (dFuns p.funcs)]), (1, .box [.nils, .nils]), (2, .box [.d (dArrs p.arrays), .own 4]), (4, fnsC (p.funcs.take i)), (5, .box [vs f.name, .d (dStrs f.params), .own 7, vi f.at_]), (7, blksC f.blocks), (8, codeC b.code)], 9⟩) (fun y => b.code.length - y.i) ⟨0, Nat.zero_le _⟩ rfl (by rw [hbe2]; simp only [AllP, big]; omega) ⟨⟨⟨rfl, rfl⟩, ⟨rfl, rfl⟩, ⟨rfl, rfl⟩, rfl, ⟨rfl, rfl⟩, rfl, rfl, rfl, trivial⟩, ⟨⟨veq0_d rfl, veq0_d rfl, trivial⟩, ⟨trivial, trivial, trivial⟩, ⟨veq0_d rfl, rfl, trivial⟩, ⟨rfl, rfl, rfl, fun _ _ => rfl⟩, ⟨rfl, veq0_d rfl, rfl, rfl, trivial⟩, ⟨rfl, rfl, rfl, fun _ _ => rfl⟩, ⟨rfl, rfl, ?_, fun j hj => ?_⟩, trivial⟩, rfl⟩ (fun y => ?_)
  · show 0 + (f.blocks.getD ((k : Int).toNat) blk0).code.length = b.code.length
    rw [hbe2, Nat.zero_add]
  · rw [hbe2]
    exact app_ins0 _ j
  obtain ⟨j, hj⟩ := y
  change Go C _ ⟨[(1, .ptr 0 0), (2, .ptr 1 0), (3, .ptr 2 0), (4, vi (i : Int)), (5, .ptr 5 0), (6, vi (k : Int)), (7, .own 8), (8, vi (j : Int))], [(0, .box [.d (dArrs p.arrays), .d (dFuns p.funcs)]), (1, .box [.nils, .nils]), (2, .box [.d (dArrs p.arrays), .own 4]), (4, fnsC (p.funcs.take i)), (5, .box [vs f.name, .d (dStrs f.params), .own 7, vi f.at_]), (7, blksC f.blocks), (8, codeC b.code)], 9⟩ _
  refine x.cond rfl trivial (fun h6 => ?_) (fun h6 => ?_)
  rotate_left
  · have h6 : ¬ (j : Int) < (b.code.length : Int) := of_decide_eq_false h6
    obtain rfl : j = b.code.length := by omega
    refine x.op rfl (by simp only [AllP]; omega) ?_
    refine Sx.Go.freeze 8 ?_
    refine x.back rfl (by simp only [AllP, inI64, List.length_cons, List.length_nil]; omega) ⟨⟨k + 1, by omega⟩, by show f.blocks.length - (k + 1) < f.blocks.length - k; omega, ⟨⟨rfl, rfl⟩, ⟨rfl, rfl⟩, ⟨rfl, rfl⟩, rfl, ⟨rfl, rfl⟩, ?_, trivial⟩, ⟨⟨veq0_d rfl, veq0_d rfl, trivial⟩, ⟨trivial, trivial, trivial⟩, ⟨veq0_d rfl, rfl, trivial⟩, ⟨rfl, rfl, rfl, fun _ _ => rfl⟩, ⟨rfl, veq0_d rfl, rfl, rfl, trivial⟩, ⟨rfl, rfl, rfl, fun z hz => ?_⟩, trivial⟩, rfl⟩
    · show VEq0 (vi ((k : Int) + 1)) (vi ((k + 1 : Nat) : Int)); rw [Int.natCast_add]; rfl
    · rw [Int.toNat_natCast]
      refine put2_id (f := fun i => dBlk (f.blocks.getD i blk0)) ?_ (fun _ _ hs => by cases hs; rfl) z
      show some [D.str (f.blocks.getD k blk0).name, dCode b.code, D.int .i64 (f.blocks.getD k blk0).at_] = some (dBlk (f.blocks.getD k blk0))
      rw [hbe]
  have h6 : (j : Int) < (b.code.length : Int) := of_decide_eq_true h6
  have h6 : j < b.code.length := by omega
  have hx := b2 _ (getD_mem (d := ins0 0) h6)
  obtain ⟨q, hqe⟩ : ∃ q, b.code.getD j (ins0 0) = q := ⟨_, rfl⟩
  have hqe2 : b.code.getD ((j : Int).toNat) (ins0 0) = q := by rw [Int.toNat_natCast]; exact hqe
  rw [hqe] at hx
  unfold okL at hx
  refine x.op rfl (by rw [hqe2]; simp only [AllP, big]; omega) ?_
  refine Sx.Go.freeze 9 ?_
  refine Sx.Go.dq 66 (dStrs q.args) rfl (dq_strs q.args (by rw [hqe2, Nat.zero_add]) fun z hz => by rw [hqe2]; exact app_str0 _ z) ?_
  refine x.op rfl (by rw [hqe2, if_pos rfl]; simp only [AllP, big, List.length_cons, List.length_nil]; omega) ?_
  refine Sx.Go.freeze 10 ?_
  refine Sx.Go.dq 77 (dStrs q.frm) rfl (dq_strs q.frm (by rw [if_pos rfl, hqe2, Nat.zero_add]) fun z hz => by rw [if_pos rfl, hqe2]; exact app_str0 _ z) ?_
  refine x.back rfl (by simp only [AllP, inI64, List.length_cons, List.length_nil]; omega) ⟨⟨j + 1, by omega⟩, by show b.code.length - (j + 1) < b.code.length - j; omega, ⟨⟨rfl, rfl⟩, ⟨rfl, rfl⟩, ⟨rfl, rfl⟩, rfl, ⟨rfl, rfl⟩, rfl, rfl, ?_, trivial⟩, ⟨⟨veq0_d rfl, veq0_d rfl, trivial⟩, ⟨trivial, trivial, trivial⟩, ⟨veq0_d rfl, rfl, trivial⟩, ⟨rfl, rfl, rfl, fun _ _ => rfl⟩, ⟨rfl, veq0_d rfl, rfl, rfl, trivial⟩, ⟨rfl, rfl, rfl, fun _ _ => rfl⟩, ⟨rfl, rfl, rfl, fun z hz => ?_⟩, trivial⟩, rfl⟩
  · show VEq0 (vi ((j : Int) + 1)) (vi ((j + 1 : Nat) : Int)); rw [Int.natCast_add]; rfl
  · rw [Int.toNat_natCast]
    have e1 : put2 (fun i => dIns (b.code.getD i (ins0 0))) j (0 + 5) [dStrs q.args] = fun i => dIns (b.code.getD i (ins0 0)) := funext fun z => put2_id (f := fun i => dIns (b.code.getD i (ins0 0))) (by
      show some [D.int .u8 (b.code.getD j (ins0 0)).kind, _, _, _, _, dStrs q.args, _, _, _] = some (dIns (b.code.getD j (ins0 0)))
      rw [← hqe]) (fun _ _ hs => by cases hs; rfl) z
    rw [e1]
    exact put2_id (f := fun i => dIns (b.code.getD i (ins0 0))) (by
      show some [D.int .u8 (b.code.getD j (ins0 0)).kind, _, _, _, _, _, dStrs q.frm, _, _] = some (dIns (b.code.getD j (ins0 0)))
      rw [← hqe]) (fun _ _ hs => by cases hs; rfl) z
end Go.Proofs.YteeofakohenpoaaDoor

/- What is handed in fits. -/
namespace Go.Proofs.YteeofakohenpoaaDoor
open Go.Sx
set_option linter.unusedVariables false
set_option linter.unusedSimpArgs false

theorem ins_fit {x : Ins} (h : InsOK x) : FitI x := by
  obtain ⟨h1, h2, h3, h4, h5, ⟨h6, h6'⟩, ⟨h7, h7'⟩, h8, h9⟩ := h
  have hr := reachBytes_lt
  have hb : ∀ n : Int, wfB n → 0 ≤ n ∧ n < 256 := fun n hn => by
    unfold wfB at hn
    simp only [Lit.wf, Bool.and_eq_true, decide_eq_true_eq, IntKind.min_u8, IntKind.max_u8] at hn
    omega
  refine ⟨hb _ h1, hb _ h2, h3, h4, h5, by unfold bigN; omega, by unfold bigN; omega, h6', h7', ?_⟩
  have := Sx.wf_i64 h8
  exact this
theorem lens_fit {x : Ins} (h : InsOK x) : x.args.length * 16 ≤ okL ∧ x.frm.length * 16 ≤ okL := by
  have hr := reachBytes_lt
  have h1 := h.args.1
  have h2 := h.frm.1
  unfold okL
  omega
end Go.Proofs.YteeofakohenpoaaDoor

/- Programs that are handed in fit. -/
namespace Go.Proofs.YteeofakohenpoaaDoor
open Go.Sx
set_option linter.unusedVariables false
set_option linter.unusedSimpArgs false

theorem prg_fit {p : Prg} (h : PrgOK p) (ha : p.arrays.length ≤ 1000) (hf : p.funcs.length ≤ 1000) (hb : ∀ f, f ∈ p.funcs → f.blocks.length ≤ 1000 ∧ ∀ b, b ∈ f.blocks → b.code.length ≤ 100000) :
    FitP p ∧ ∀ f, f ∈ p.funcs → f.params.length * 16 ≤ okL ∧ f.blocks.length ≤ 1000 ∧ ∀ b, b ∈ f.blocks → b.code.length ≤ 100000 ∧ ∀ x, x ∈ b.code → x.args.length * 16 ≤ okL ∧ x.frm.length * 16 ≤ okL := by
  have hr := reachBytes_lt
  obtain ⟨⟨_, a2⟩, ⟨_, f2⟩⟩ := h
  refine ⟨⟨by unfold bigL; omega, fun a h => ⟨(a2 a h).name, (a2 a h).level, Sx.wf_i64 (a2 a h).size⟩, by unfold bigL; omega, fun f h => ?_⟩, fun f h => ?_⟩
  · obtain ⟨k1, k2⟩ := hb f h
    have hk := f2 f h
    have hp := hk.params.1
    refine ⟨hk.name, by unfold bigN; omega, hk.params.2, by unfold bigL; omega, fun b hbb => ?_⟩
    have hc := k2 b hbb
    have hbk := hk.blocks.2 b hbb
    exact ⟨hbk.name, by unfold bigL; omega, fun x hx => ins_fit (hbk.code.2 x hx)⟩
  · obtain ⟨k1, k2⟩ := hb f h
    have hk := f2 f h
    have hp := hk.params.1
    exact ⟨by unfold okL; omega, k1, fun b hbb => ⟨k2 b hbb, fun x hx => lens_fit ((hk.blocks.2 b hbb).code.2 x hx)⟩⟩
theorem right_smallP {p : Prg} (h : rightP p = true) : SmallP p := by
  obtain ⟨r1, r2, r3, r4⟩ := right_prg h
  refine ⟨by unfold bigL; omega, by unfold bigL; omega, fun f hf => ?_⟩
  obtain ⟨f1, f2, f3, f4, f5⟩ := r4 f hf
  refine ⟨by unfold bigL; omega, by unfold bigL; omega, fun b hb => ?_⟩
  obtain ⟨b1, b2, b3⟩ := f5 b hb
  refine ⟨by unfold bigL; omega, fun x hx => ?_⟩
  have hs := right_small (b2 x hx)
  have h1 := hs.alen
  have h2 := hs.flen
  exact ⟨by unfold bigL; omega, by unfold bigL; omega⟩
end Go.Proofs.YteeofakohenpoaaDoor

/- The law on programs that are told by their texts. -/
namespace Go.Proofs.YteeofakohenpoaaDoor
open Go.Sx
set_option linter.unusedVariables false
set_option linter.unusedSimpArgs false
set_option maxRecDepth 100000

structure TW (p : Prg) where
  i : Nat
  hi : i ≤ p.funcs.length
  ok : ∀ j, j < i → (p.funcs.getD j fun0).blocks.length ≤ 20 ∧ ∀ b, b ∈ (p.funcs.getD j fun0).blocks → b.code.length ≤ 40
structure TB (f : Fun) where
  k : Nat
  hk : k ≤ f.blocks.length
  ok : ∀ j, j < k → (f.blocks.getD j blk0).code.length ≤ 40
set_option maxHeartbeats 4000000 in
theorem told_spec (p : Prg) (hp : PrgOK p) : Pure PG 4 [prgV p] (vb true) [] := by
  refine Proc.mk (cfg 91) tysOK [] Tryd.func4 rfl (by kernel_rfl) rfl rfl rfl ?_
  intro C x
  refine x.cond rfl trivial (fun h => ?_) (fun h => ?_)
  · refine x.exit rfl trivial ?_
    exact ⟨.inr rfl, rfl, trivial, rfl⟩
  have h : (decide ((10 : Int) < p.funcs.length) || decide ((100 : Int) < p.arrays.length)) = false := h
  simp only [Bool.or_eq_false_iff, decide_eq_false_iff_not] at h
  obtain ⟨hf10, ha100⟩ := h
  have hfok := hp.funcs.2
  have hr := reachBytes_lt
  refine x.loop (α := TW p) (fun y => ⟨[(1, .ptr 0 0), (3, vi (y.i : Int))], [(0, .box [.d (dArrs p.arrays), .d (dFuns p.funcs)])], 1⟩) (fun y => p.funcs.length - y.i) ⟨0, Nat.zero_le _, fun j hj => by omega⟩ rfl trivial ⟨⟨⟨rfl, rfl⟩, rfl, trivial⟩, ⟨⟨veq0_d rfl, veq0_d rfl, trivial⟩, trivial⟩, rfl⟩ (fun y => ?_)
  obtain ⟨i, hi, ok⟩ := y
  change Go C _ ⟨[(1, .ptr 0 0), (3, vi (i : Int))], [(0, .box [.d (dArrs p.arrays), .d (dFuns p.funcs)])], 1⟩ _
  refine x.cond rfl trivial (fun h2 => ?_) (fun h2 => ?_)
  · have h2 : (i : Int) < (p.funcs.length : Int) := of_decide_eq_true h2
    have h2 : i < p.funcs.length := by omega
    have hff := hfok _ (getD_mem (d := fun0) h2)
    obtain ⟨f, hfe⟩ : ∃ f, p.funcs.getD i fun0 = f := ⟨_, rfl⟩
    have hfe2 : p.funcs.getD ((i : Int).toNat) fun0 = f := by rw [Int.toNat_natCast]; exact hfe
    rw [hfe] at hff
    refine x.cond rfl (by simp only [AllP]; omega) (fun h3 => ?_) (fun h3 => ?_)
    · refine x.exit rfl trivial ?_
      exact ⟨.inr rfl, rfl, trivial, rfl⟩
    have h3 : ¬ (20 : Int) < ((p.funcs.getD ((i : Int).toNat) fun0).blocks.length : Int) := of_decide_eq_false h3
    rw [hfe2] at h3
    refine x.loop (α := TB f) (fun y => ⟨[(1, .ptr 0 0), (3, vi (i : Int)), (4, vi (y.k : Int))], [(0, .box [.d (dArrs p.arrays), .d (dFuns p.funcs)])], 1⟩) (fun y => f.blocks.length - y.k) ⟨0, Nat.zero_le _, fun j hj => by omega⟩ rfl trivial ⟨⟨⟨rfl, rfl⟩, rfl, rfl, trivial⟩, ⟨⟨veq0_d rfl, veq0_d rfl, trivial⟩, trivial⟩, rfl⟩ (fun y => ?_)
    obtain ⟨k, hk, okb⟩ := y
    change Go C _ ⟨[(1, .ptr 0 0), (3, vi (i : Int)), (4, vi (k : Int))], [(0, .box [.d (dArrs p.arrays), .d (dFuns p.funcs)])], 1⟩ _
    refine x.cond rfl (by simp only [AllP]; omega) (fun h4 => ?_) (fun h4 => ?_)
    · have h4 : (k : Int) < ((p.funcs.getD ((i : Int).toNat) fun0).blocks.length : Int) := of_decide_eq_true h4
      rw [hfe2] at h4
      refine x.cond rfl (by rw [hfe2]; simp only [AllP]; omega) (fun h5 => ?_) (fun h5 => ?_)
      · refine x.exit rfl trivial ?_
        exact ⟨.inr rfl, rfl, trivial, rfl⟩
      · have h5 : ¬ (40 : Int) < (((p.funcs.getD ((i : Int).toNat) fun0).blocks.getD ((k : Int).toNat) blk0).code.length : Int) := of_decide_eq_false h5
        rw [hfe2, Int.toNat_natCast] at h5
        refine x.back rfl (by simp only [AllP, inI64]; omega) ⟨⟨k + 1, by omega, fun j hj => ?_⟩, by show f.blocks.length - (k + 1) < f.blocks.length - k; omega, ⟨⟨rfl, rfl⟩, rfl, ?_, trivial⟩, ⟨⟨veq0_d rfl, veq0_d rfl, trivial⟩, trivial⟩, rfl⟩
        · by_cases e : j = k
          · rw [e]; omega
          · exact okb j (by omega)
        · show VEq0 (vi ((k : Int) + 1)) (vi ((k + 1 : Nat) : Int)); rw [Int.natCast_add]; rfl
    · have h4 : ¬ (k : Int) < ((p.funcs.getD ((i : Int).toNat) fun0).blocks.length : Int) := of_decide_eq_false h4
      rw [hfe2] at h4
      refine x.back rfl (by simp only [AllP, inI64]; omega) ⟨⟨i + 1, by omega, fun j hj => ?_⟩, by show p.funcs.length - (i + 1) < p.funcs.length - i; omega, ⟨⟨rfl, rfl⟩, ?_, trivial⟩, ⟨⟨veq0_d rfl, veq0_d rfl, trivial⟩, trivial⟩, rfl⟩
      · by_cases e : j = i
        · rw [e, hfe]
          refine ⟨by omega, fun b hb => ?_⟩
          obtain ⟨q, hq, rfl⟩ := List.getElem_of_mem hb
          have := okb q (by omega)
          rwa [List.getD_eq_getElem?_getD, List.getElem?_eq_getElem hq] at this
        · exact ok j (by omega)
      · show VEq0 (vi ((i : Int) + 1)) (vi ((i + 1 : Nat) : Int)); rw [Int.natCast_add]; rfl
  have h2 : ¬ (i : Int) < (p.funcs.length : Int) := of_decide_eq_false h2
  have hsm : ∀ f, f ∈ p.funcs → f.blocks.length ≤ 1000 ∧ ∀ b, b ∈ f.blocks → b.code.length ≤ 100000 := fun f hf => by
    obtain ⟨q, hq, rfl⟩ := List.getElem_of_mem hf
    have := ok q (by omega)
    rw [List.getD_eq_getElem?_getD, List.getElem?_eq_getElem hq] at this
    exact ⟨by have := this.1; dsimp only [Option.getD_some] at this; omega, fun b hb => by have := this.2 b hb; omega⟩
  obtain ⟨hfit, hcp⟩ := prg_fit hp (by omega) (by omega) hsm
  have cp := copy_spec p (by omega) (by omega) hcp
  refine x.pure rfl trivial rfl cp ⟨⟨veq0_d rfl, veq0_d rfl, trivial⟩, trivial⟩ ?_
  refine x.pure rfl trivial rfl (print_spec p hfit) ⟨⟨veq0_d rfl, veq0_d rfl, trivial⟩, trivial⟩ ?_
  have hn : ∀ f, f ∈ p.funcs → ∀ b, b ∈ f.blocks → ∀ x, x ∈ b.code → inI64 x.num := fun f hf b hb x hx => (((hfit.funcs f hf).blocks b hb).code x hx).num
  unfold printP
  by_cases r1 : rightP p = true
  · rw [if_pos r1]
    by_cases hz : 65536 < (textP p).size
    · rw [if_pos hz]
      refine x.cond rfl trivial (fun h3 => ?_) (fun h3 => ?_)
      · refine x.pure rfl trivial rfl cp ⟨⟨veq0_d rfl, veq0_d rfl, trivial⟩, trivial⟩ ?_
        refine x.pure rfl trivial rfl (rightp_spec p hfit) ⟨⟨veq0_d rfl, veq0_d rfl, trivial⟩, trivial⟩ ?_
        rw [r1]
        refine x.pureG rfl trivial rfl (fun _ => awake8_spec) rfl trivial ?_
        refine x.exit rfl trivial ?_
        exact ⟨.inr rfl, rfl, trivial, rfl⟩
      · have h3 : (!decide ((2 : Int) = 0)) = false := h3
        simp at h3
    · rw [if_neg hz]
      refine x.cond rfl trivial (fun h3 => ?_) (fun h3 => ?_)
      · have h3 : (!decide ((0 : Int) = 0)) = true := h3
        simp at h3
      obtain ⟨t1, t2, t3⟩ := parse_text r1 hn (by omega)
      have hsm2 := parse_small (textP p)
      have hsame := sameB_er (a := p) (b := (parseV (textP p)).1) t2.symm t3.symm
      refine x.pure rfl trivial rfl (parse7_spec (textP p) (by omega)) ⟨rfl, trivial⟩ ?_
      obtain ⟨Q, hQ⟩ : ∃ Q, parseV (textP p) = Q := ⟨_, rfl⟩
      rw [hQ] at t1 hsm2 hsame ⊢
      refine x.pureG rfl trivial rfl (fun _ => same_spec p Q.1 false (right_smallP r1) hsm2) rfl ⟨⟨veq0_d rfl, veq0_d rfl, trivial⟩, ⟨veq0_d rfl, veq0_d rfl, trivial⟩, rfl, trivial⟩ ?_
      refine x.pureG rfl trivial rfl (fun _ => awake8_spec) rfl trivial ?_
      refine x.exit rfl trivial ?_
      refine ⟨.inr rfl, ?_, trivial, rfl⟩
      show (decide (Q.2.2 = 0) && sameB p Q.1 false && true) = true
      rw [t1, hsame]
      rfl
  · rw [if_neg r1]
    have r2 : rightP p = false := by simpa using r1
    refine x.cond rfl trivial (fun h3 => ?_) (fun h3 => ?_)
    · refine x.pure rfl trivial rfl cp ⟨⟨veq0_d rfl, veq0_d rfl, trivial⟩, trivial⟩ ?_
      refine x.pure rfl trivial rfl (rightp_spec p hfit) ⟨⟨veq0_d rfl, veq0_d rfl, trivial⟩, trivial⟩ ?_
      rw [r2]
      refine x.pureG rfl trivial rfl (fun _ => awake8_spec) rfl trivial ?_
      refine x.exit rfl trivial ?_
      exact ⟨.inr rfl, rfl, trivial, rfl⟩
    · have h3 : (!decide ((1 : Int) = 0)) = false := h3
      simp at h3
end Go.Proofs.YteeofakohenpoaaDoor
