/- Values of forms (f_impl_pair), and what is counted over all vectors of some size (f_impl_vectors_1). -/
import Derived.Test.YtmmadcccjicdcaaM1
namespace Go.Proofs.Ytmmadcccjicdcaa.E
set_option linter.unusedVariables false
set_option linter.unusedSimpArgs false

theorem mul_bound {a x A X : Int} (ha : -A ≤ a ∧ a ≤ A) (hx : -X ≤ x ∧ x ≤ X) : -(A * X) ≤ a * x ∧ a * x ≤ A * X := by
  have hA : 0 ≤ A := by omega
  have hX : 0 ≤ X := by omega
  rcases Int.le_total 0 a with h1 | h1 <;> rcases Int.le_total 0 x with h2 | h2
  · have k1 := Int.mul_le_mul ha.2 hx.2 h2 hA
    have k2 := Int.mul_nonneg h1 h2
    have k3 := Int.mul_nonneg hA hX
    omega
  · have k1 := Int.mul_le_mul ha.2 (show -x ≤ X by omega) (by omega) hA
    have k2 := Int.mul_nonneg h1 (show 0 ≤ -x by omega)
    have k3 := Int.mul_nonneg hA hX
    rw [Int.mul_neg] at k1 k2
    omega
  · have k1 := Int.mul_le_mul (show -a ≤ A by omega) hx.2 h2 hA
    have k2 := Int.mul_nonneg (show 0 ≤ -a by omega) h2
    have k3 := Int.mul_nonneg hA hX
    rw [Int.neg_mul] at k1 k2
    omega
  · have k1 := Int.mul_le_mul (show -a ≤ A by omega) (show -x ≤ X by omega) (by omega) hA
    have k2 := Int.mul_nonneg (show 0 ≤ -a by omega) (show 0 ≤ -x by omega)
    have k3 := Int.mul_nonneg hA hX
    rw [Int.neg_mul_neg] at k1 k2
    omega

/-- The sum of products of a form's terms and two vectors' integers. -/
def dot : List Int → List Int → List Int → Int
  | a :: r, x :: s, y :: t => a * x * y + dot r s t
  | _, _, _ => 0

def Sized (B : Int) (l : List Int) : Prop := ∀ x ∈ l, -B ≤ x ∧ x ≤ B

theorem getD_drop {l : List Int} {i : Nat} (h : i < l.length) : l.drop i = l.getD i 0 :: l.drop (i + 1) := by
  rw [List.drop_eq_getElem_cons h, List.getD_eq_getElem?_getD, List.getElem?_eq_getElem h]
  rfl

theorem getD_mem {l : List Int} {i : Nat} (h : i < l.length) : l.getD i 0 ∈ l := by
  rw [List.getD_eq_getElem?_getD, List.getElem?_eq_getElem h]
  exact List.getElem_mem h

theorem pair_loop {R : Type} {k : Nat} {fm v w : List Int} (hv : v.length = fm.length) (hw : w.length = fm.length) (hf : Sized 30000 fm) (hvs : Sized 2000000 v) (hws : Sized 2000000 w) (hm : fm.length ≤ 4) :
    ∀ (j i fuel : Nat) (acc : Int), i + j = fm.length → j < fuel → -(120000000000000000 * i) ≤ acc → acc ≤ 120000000000000000 * i → ∀ K0 : Int → Option R,
      l_impl_pair_3 k fuel v w acc fm (fm.length : Int) (i : Int) K0 = K0 (acc + dot (fm.drop i) (v.drop i) (w.drop i)) := by
  intro j
  induction j with
  | zero =>
    intro i fuel acc hi hf' h1 h2 K0
    obtain ⟨f, rfl⟩ : ∃ f, fuel = f + 1 := ⟨fuel - 1, by omega⟩
    have : fm.drop i = [] := List.drop_eq_nil_of_le (by omega)
    simp only [l_impl_pair_3, show ¬ (i : Int) < (fm.length : Int) by omega, decide_false, cond_false, this, dot, Int.add_zero]
  | succ j ih =>
    intro i fuel acc hi hf' h1 h2 K0
    obtain ⟨f, rfl⟩ : ∃ f, fuel = f + 1 := ⟨fuel - 1, by omega⟩
    have hi1 : i < fm.length := by omega
    have b1 := hf _ (getD_mem hi1)
    have b2 := hvs _ (getD_mem (l := v) (i := i) (by omega))
    have b3 := hws _ (getD_mem (l := w) (i := i) (by omega))
    have c1 := mul_bound b1 b2
    have c2 := mul_bound (A := 30000 * 2000000) (X := 2000000) (x := w.getD i 0) c1 b3
    rw [getD_drop hi1, getD_drop (l := v) (by omega), getD_drop (l := w) (by omega)]
    simp only [dot]
    simp only [l_impl_pair_3, Int.toNat_natCast, show (i : Int) < (fm.length : Int) by omega, show (0 : Int) ≤ (i : Int) by omega, show (i : Int) < (v.length : Int) by omega, show (i : Int) < (w.length : Int) by omega, decide_true, cond_true, Bool.and_self]
    generalize fm.getD i 0 = a at *
    generalize v.getD i 0 = x at *
    generalize w.getD i 0 = y at *
    have w1 : IntKind.wrap .i64 (a * x) = a * x := wrap_id (by omega) (by omega)
    have w2 : IntKind.wrap .i64 (a * x * y) = a * x * y := wrap_id (by omega) (by omega)
    have w3 : IntKind.wrap .i64 (acc + a * x * y) = acc + a * x * y := wrap_id (by omega) (by omega)
    have w4 : IntKind.wrap .i64 ((i : Int) + 1) = ((i + 1 : Nat) : Int) := by rw [wrap_id (by omega) (by omega)]; omega
    rw [w1, w2, w3, w4, ih (i + 1) f (acc + a * x * y) (by omega) (by omega) (by omega) (by omega) K0, Int.add_assoc]

theorem f_impl_pair_dot {R : Type} {k : Nat} (hk : 5 ≤ k) {fm v w : List Int} (hv : v.length = fm.length) (hw : w.length = fm.length) (hf : Sized 30000 fm) (hvs : Sized 2000000 v) (hws : Sized 2000000 w) (hm : fm.length ≤ 4) (K : Int → Option R) :
    f_impl_pair k fm v w K = K (dot fm v w) := by
  have := pair_loop (R := R) (k := k) hv hw hf hvs hws hm fm.length 0 k 0 (by omega) (by omega) (by omega) (by omega) K
  simp only [Int.zero_add, List.drop_zero] at this
  exact this

/-- The sum of g over c integers from lo on. -/
def sumR (lo : Int) : Nat → (Int → Int) → Int
  | 0, _ => 0
  | c + 1, g => g lo + sumR (lo + 1) c g

/-- How many ways lead on to the value t: what is left of the form, what is there. -/
def ways (n : Int) (t : Int) : List Int → Int → Int
  | [], s => if s = t then 1 else 0
  | a :: r, s => sumR (-n) (2 * n + 1).toNat fun x => ways n t r (s + a * x * x)

theorem sumR_bound {g : Int → Int} {B : Int} (h : ∀ x, 0 ≤ g x ∧ g x ≤ B) : ∀ (c : Nat) (lo : Int), 0 ≤ sumR lo c g ∧ sumR lo c g ≤ c * B
  | 0, lo => by simp [sumR]
  | c + 1, lo => by
    have h1 := sumR_bound h c (lo + 1)
    have h2 := h lo
    have e : ((c + 1 : Nat) : Int) * B = c * B + B := by
      rw [show ((c + 1 : Nat) : Int) = (c : Int) + 1 by omega, Int.add_mul, Int.one_mul]
    simp only [sumR]
    omega

theorem ways_bound {n t : Int} (hn : n ≤ 7) : ∀ (l : List Int) (s : Int), 0 ≤ ways n t l s ∧ ways n t l s ≤ 20 ^ l.length
  | [], s => by unfold ways; split <;> simp
  | a :: r, s => by
    have ih := sumR_bound (g := fun x => ways n t r (s + a * x * x)) (B := 20 ^ r.length) (fun x => ways_bound hn r _) (2 * n + 1).toNat (-n)
    have hp : (0 : Int) < 20 ^ r.length := Int.pow_pos (by decide)
    have hc : ((2 * n + 1).toNat : Int) ≤ 20 := by omega
    have := Int.mul_le_mul_of_nonneg_right hc (Int.le_of_lt hp)
    simp only [ways, List.length_cons, Int.pow_succ]
    omega

theorem dot_take : ∀ (i : Nat) (f v w : List Int), i < f.length → i < v.length → i < w.length → dot (f.take (i + 1)) (v.take (i + 1)) (w.take (i + 1)) = dot (f.take i) (v.take i) (w.take i) + f.getD i 0 * v.getD i 0 * w.getD i 0
  | 0, a :: f, x :: v, y :: w, _, _, _ => by simp [dot]
  | i + 1, a :: f, x :: v, y :: w, h1, h2, h3 => by
    have := dot_take i f v w (by simpa using h1) (by simpa using h2) (by simpa using h3)
    simp only [List.take_succ_cons, dot, List.getD_cons_succ] at this ⊢
    omega
  | _, [], _, _, h, _, _ => by simp at h
  | _, _ :: _, [], _, _, h, _ => by simp at h
  | _, _ :: _, _ :: _, [], _, _, h => by simp at h

abbrev Rc (R : Type) := Int → Int → Int → List Int → Int → Int → List Int → (Int → Int → List Int → Int → Int → List Int → Option R) → Option R

theorem vec_loop {R : Type} {k : Nat} {fm : List Int} {t n : Int} (hn : n ≤ 7) (hm : fm.length ≤ 4) (rc : Rc R) (i r : Nat) (hi : i + r + 1 = fm.length)
    (hrc : ∀ (v : List Int) (cnt : Int), v.length = fm.length → Sized 2000000 v → 0 ≤ cnt → cnt + 20 ^ r ≤ 1000000000 → ∃ v', v'.length = fm.length ∧ Sized 2000000 v' ∧ v'.take (i + 1) = v.take (i + 1) ∧
      ∀ K, rc ((i + 1 : Nat) : Int) (fm.length : Int) n fm t cnt v K = K (fm.length : Int) n fm t (cnt + ways n t (fm.drop (i + 1)) (dot (fm.take (i + 1)) (v.take (i + 1)) (v.take (i + 1)))) v') :
    ∀ (j fuel : Nat) (v : List Int) (cnt x : Int), j < fuel → v.length = fm.length → Sized 2000000 v → v.getD i 0 = x → x + j = n + 1 → -7 ≤ x → 0 ≤ cnt → cnt + j * 20 ^ r ≤ 1000000000 →
      ∃ v', v'.length = fm.length ∧ Sized 2000000 v' ∧ v'.take i = v.take i ∧ ∀ K0, l_impl_vectors_1_3 k rc fuel (i : Int) v (fm.length : Int) n fm t cnt K0 =
        K0 v' (fm.length : Int) n fm t (cnt + sumR x j (fun y => ways n t (fm.drop (i + 1)) (dot (fm.take i) (v.take i) (v.take i) + fm.getD i 0 * y * y))) := by
  intro j
  induction j with
  | zero =>
    intro fuel v cnt x hf hl hs hx hj h7 hc hb
    obtain ⟨f, rfl⟩ : ∃ f, fuel = f + 1 := ⟨fuel - 1, by omega⟩
    refine ⟨v, hl, hs, rfl, fun K0 => ?_⟩
    simp only [l_impl_vectors_1_3, Int.toNat_natCast, hx, show (i : Int) < (v.length : Int) by omega, show (0 : Int) ≤ (i : Int) by omega, show ¬ x ≤ n by omega, decide_true, decide_false, cond_true, cond_false, Bool.and_self, sumR, Int.add_zero]
  | succ j ih =>
    intro fuel v cnt x hf hl hs hx hj h7 hc hb
    obtain ⟨f, rfl⟩ : ∃ f, fuel = f + 1 := ⟨fuel - 1, by omega⟩
    have hp : (0 : Int) < 20 ^ r := Int.pow_pos (by decide)
    have e : ((j + 1 : Nat) : Int) * 20 ^ r = j * 20 ^ r + 20 ^ r := by
      rw [show ((j + 1 : Nat) : Int) = (j : Int) + 1 by omega, Int.add_mul, Int.one_mul]
    have hjp : (0 : Int) ≤ j * 20 ^ r := Int.mul_nonneg (by omega) (by omega)
    obtain ⟨v', h1, h2, h3, h4⟩ := hrc v cnt hl hs hc (by omega)
    have hvi : v'.getD i 0 = x := by
      have h := congrArg (fun l => l.getD i 0) h3
      simp only [List.getD_eq_getElem?_getD, List.getElem?_take, show i < i + 1 by omega, if_true] at h hx ⊢
      rw [h, hx]
    have h3' : v'.take i = v.take i := by
      have h := congrArg (fun l => l.take i) h3
      simpa [List.take_take, Nat.min_eq_left (show i ≤ i + 1 by omega)] using h
    have wb := ways_bound (t := t) hn (fm.drop (i + 1)) (dot (fm.take (i + 1)) (v.take (i + 1)) (v.take (i + 1)))
    have hlen : (fm.drop (i + 1)).length = r := by rw [List.length_drop]; omega
    rw [hlen] at wb
    have w1 : IntKind.wrap .i64 (x + 1) = x + 1 := wrap_id (by omega) (by omega)
    have w2 : IntKind.wrap .i64 ((i : Int) + 1) = ((i + 1 : Nat) : Int) := by rw [wrap_id (by omega) (by omega)]; omega
    have hil : i < v'.length := by omega
    obtain ⟨v'', g1, g2, g_laws_FnTwoEach, g4⟩ := ih f (v'.set i (x + 1)) (cnt + ways n t (fm.drop (i + 1)) (dot (fm.take (i + 1)) (v.take (i + 1)) (v.take (i + 1)))) (x + 1) (by omega) (by simpa using h1) (fun y hy => by
      rcases List.mem_or_eq_of_mem_set hy with h | h
      · exact h2 y h
      · subst h; omega) (by rw [List.getD_eq_getElem?_getD, List.getElem?_set]; simp [hil]) (by omega) (by omega) (by omega) (by omega)
    have htake : (v'.set i (x + 1)).take i = v.take i := by rw [List.take_set_of_le (Nat.le_refl i), h3']
    refine ⟨v'', g1, g2, g_laws_FnTwoEach.trans htake, fun K0 => ?_⟩
    simp only [l_impl_vectors_1_3, Int.toNat_natCast, hx, hvi, w1, w2, show (i : Int) < (v.length : Int) by omega, show (i : Int) < (v'.length : Int) by omega, show (0 : Int) ≤ (i : Int) by omega, show x ≤ n by omega, decide_true, cond_true, Bool.and_self, h4]
    rw [g4 K0, htake, dot_take i fm v v (by omega) (by omega) (by omega), hx]
    simp only [sumR, Int.add_assoc]

/-- All vectors are told of once. -/
theorem f_impl_vectors_1_ways {R : Type} {k : Nat} (hk : 20 ≤ k) {fm : List Int} {t n : Int} (hn0 : 0 ≤ n) (hn : n ≤ 7) (hm : fm.length ≤ 4) (hfs : Sized 30000 fm) :
    ∀ (r i d : Nat) (v : List Int) (cnt : Int), i + r = fm.length → r < d → v.length = fm.length → Sized 2000000 v → 0 ≤ cnt → cnt + 20 ^ r ≤ 1000000000 →
      ∃ v', v'.length = fm.length ∧ Sized 2000000 v' ∧ v'.take i = v.take i ∧
        ∀ K, f_impl_vectors_1 (R := R) k d (i : Int) (fm.length : Int) n fm t cnt v K = K (fm.length : Int) n fm t (cnt + ways n t (fm.drop i) (dot (fm.take i) (v.take i) (v.take i))) v' := by
  intro r
  induction r with
  | zero =>
    intro i d v cnt hi hd hl hs hc hb
    obtain ⟨d, rfl⟩ : ∃ e, d = e + 1 := ⟨d - 1, by omega⟩
    have e1 : fm.drop i = [] := List.drop_eq_nil_of_le (by omega)
    have e2 : fm.take i = fm := List.take_of_length_le (by omega)
    have e3 : v.take i = v := List.take_of_length_le (by omega)
    refine ⟨v, hl, hs, rfl, fun K => ?_⟩
    have hb : cnt ≤ 1000000000 := by have : (20 : Int) ^ 0 = 1 := rfl; omega
    have w1 : IntKind.wrap .i64 (cnt + 1) = cnt + 1 := wrap_id (by omega) (by omega)
    rw [e1, e2, e3]
    simp only [f_impl_vectors_1, f_impl_ValueMany_1, show (i : Int) = (fm.length : Int) by omega, decide_true, cond_true, f_impl_pair_dot (show 5 ≤ k by omega) hl hl hfs hs hs hm, w1, ways]
    by_cases h : dot fm v v = t
    · simp only [h, decide_true, cond_true, if_true]
    · simp only [h, decide_false, cond_false, if_false, Int.add_zero]
  | succ r ih =>
    intro i d v cnt hi hd hl hs hc hb
    obtain ⟨d, rfl⟩ : ∃ e, d = e + 1 := ⟨d - 1, by omega⟩
    have w1 : IntKind.wrap .i64 (0 - n) = -n := by rw [wrap_id (by omega) (by omega)]; omega
    have hp : (0 : Int) < 20 ^ r := Int.pow_pos (by decide)
    have e20 : (20 : Int) ^ (r + 1) = 20 ^ r * 20 := Int.pow_succ ..
    have hj : (((2 * n + 1).toNat : Nat) : Int) = 2 * n + 1 := by omega
    have hjb := Int.mul_le_mul_of_nonneg_right (show (((2 * n + 1).toNat : Nat) : Int) ≤ 20 by omega) (Int.le_of_lt hp)
    have hil : i < v.length := by omega
    obtain ⟨v', g1, g2, g_laws_FnTwoEach, g4⟩ := vec_loop (R := R) (k := k) (t := t) hn hm (f_impl_vectors_1 k d) i r (by omega) (fun v cnt a b c e => ih (i + 1) d v cnt (by omega) (by omega) a b c e) (2 * n + 1).toNat k (v.set i (-n)) cnt (-n) (by omega) (by simpa using hl)
      (fun y hy => by
        rcases List.mem_or_eq_of_mem_set hy with h | h
        · exact hs y h
        · subst h; omega) (by rw [List.getD_eq_getElem?_getD, List.getElem?_set]; simp [hil]) (by omega) (by omega) hc (by omega)
    have htake : (v.set i (-n)).take i = v.take i := List.take_set_of_le (Nat.le_refl i)
    refine ⟨v', g1, g2, g_laws_FnTwoEach.trans htake, fun K => ?_⟩
    rw [getD_drop (l := fm) (i := i) (by omega)]
    simp only [f_impl_vectors_1, show ¬ (i : Int) = (fm.length : Int) by omega, Int.toNat_natCast, w1, show (i : Int) < (v.length : Int) by omega, show (0 : Int) ≤ (i : Int) by omega, decide_true, decide_false, cond_true, cond_false, Bool.and_self]
    rw [g4, htake]
    rfl

end Go.Proofs.Ytmmadcccjicdcaa.E
