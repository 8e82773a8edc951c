/- Whole numbers of 64 bits; roots of squares. Plain laws of squareRoot (f_impl_squareRoot) and l5Root (f_spec_l5Root). -/
import Derived.Test.YtmmadcccjicdcaaG2
namespace Go.Proofs.Ytmmadcccjicdcaa.E
set_option linter.unusedVariables false

theorem wrap_id {n : Int} (h1 : -9223372036854775808 ≤ n) (h2 : n < 9223372036854775808) : IntKind.wrap .i64 n = n := by
  have e1 : (2 ^ IntKind.i64.bits : Int) = 18446744073709551616 := by decide
  have e2 : (2 ^ (IntKind.i64.bits - 1) : Int) = 9223372036854775808 := by decide
  have e3 : IntKind.i64.signed = true := rfl
  simp only [IntKind.wrap, e1, e2, e3, Bool.true_and]
  split
  · rename_i h; have := of_decide_eq_true h; omega
  · rename_i h
    have h : ¬ (n % 18446744073709551616 ≥ 9223372036854775808) := fun hc => h (decide_eq_true hc)
    omega

theorem sq_nonneg (x : Int) : 0 ≤ x * x := by
  rcases Int.le_total 0 x with h | h
  · exact Int.mul_nonneg h h
  · exact Int.mul_nonneg_of_nonpos_of_nonpos h h

theorem sq_le {x y : Int} (h0 : 0 ≤ x) (h : x ≤ y) : x * x ≤ y * y := Int.mul_le_mul h h h0 (by omega)
theorem sq_lt {x y : Int} (h0 : 0 ≤ x) (h : x < y) : x * x < y * y := by
  have h1 : x * x ≤ x * y := Int.mul_le_mul_of_nonneg_left (by omega) h0
  have h2 : x * y < y * y := Int.mul_lt_mul_of_pos_right h (by omega)
  omega
theorem le_of_sq {x y : Int} (hy : 0 ≤ y) (h : x * x ≤ y * y) : x ≤ y := by
  rcases (show y < x ∨ x ≤ y by omega) with h1 | h1
  · have := sq_lt hy h1; omega
  · exact h1
theorem lt_of_sq {x y : Int} (hy : 0 ≤ y) (h : x * x < y * y) : x < y := by
  rcases (show x < y ∨ y ≤ x by omega) with h1 | h1
  · exact h1
  · have := sq_le hy h1; omega

theorem two_pow_pos (j : Nat) : (0 : Int) < 2 ^ j := Int.pow_pos (by decide)

theorem tdiv_two_pow (j : Nat) : Int.tdiv (2 ^ (j + 1)) 2 = 2 ^ j := by
  have h := two_pow_pos j
  rw [Int.pow_succ]
  exact Int.mul_tdiv_cancel _ (by decide)

theorem root_loop {R : Type} (k : Nat) (N : Int) (h0 : 0 ≤ N) : ∀ (j fuel : Nat) (s : Int), j + 2 ≤ fuel → 0 ≤ s → s + 2 ^ j + 2 ^ j ≤ 2147483648 → s * s ≤ N → N < (s + 2 ^ j + 2 ^ j) * (s + 2 ^ j + 2 ^ j) →
    ∃ r : Int, 0 ≤ r ∧ r < 2147483648 ∧ r * r ≤ N ∧ N < (r + 1) * (r + 1) ∧ ∀ K0 : Int → Int → Option R, l_impl_squareRoot_5 k fuel N s (2 ^ j) K0 = K0 N r := by
  intro j
  induction j with
  | zero =>
    intro fuel s hf hs hb hle hlt
    obtain ⟨f, rfl⟩ : ∃ f, fuel = f + 2 := ⟨fuel - 2, by omega⟩
    have e : (2 : Int) ^ 0 = 1 := rfl
    rw [e] at *
    have w1 : IntKind.wrap .i64 (s + 1) = s + 1 := wrap_id (by omega) (by omega)
    have hsq : (s + 1) * (s + 1) ≤ 4611686018427387904 := by
      have := sq_le (x := s + 1) (y := 2147483648) (by omega) (by omega)
      omega
    have w2 : IntKind.wrap .i64 ((s + 1) * (s + 1)) = (s + 1) * (s + 1) := wrap_id (by have := sq_nonneg (s + 1); omega) (by omega)
    have w3 : IntKind.wrap .i64 (Int.tdiv 1 2) = 0 := by decide
    by_cases h : (s + 1) * (s + 1) ≤ N
    · refine ⟨s + 1, by omega, by omega, h, hlt, fun K0 => ?_⟩
      simp only [l_impl_squareRoot_5, w1, w2, w3, h, decide_true, cond_true, show (0 : Int) < 1 from by decide, show ¬ (0 : Int) < 0 from by decide, decide_false, cond_false]
    · refine ⟨s, hs, by omega, hle, by omega, fun K0 => ?_⟩
      simp only [l_impl_squareRoot_5, w1, w2, w3, h, decide_true, cond_true, show (0 : Int) < 1 from by decide, show ¬ (0 : Int) < 0 from by decide, decide_false, cond_false]
  | succ j ih =>
    intro fuel s hf hs hb hle hlt
    obtain ⟨f, rfl⟩ : ∃ f, fuel = f + 1 := ⟨fuel - 1, by omega⟩
    have hp := two_pow_pos j
    have hp1 := two_pow_pos (j + 1)
    have e : (2 : Int) ^ (j + 1) = 2 ^ j + 2 ^ j := by rw [Int.pow_succ]; omega
    have w1 : IntKind.wrap .i64 (s + 2 ^ (j + 1)) = s + 2 ^ (j + 1) := wrap_id (by omega) (by omega)
    have hsq : (s + 2 ^ (j + 1)) * (s + 2 ^ (j + 1)) ≤ 4611686018427387904 := by
      have := sq_le (x := s + 2 ^ (j + 1)) (y := 2147483648) (by omega) (by omega)
      omega
    have w2 : IntKind.wrap .i64 ((s + 2 ^ (j + 1)) * (s + 2 ^ (j + 1))) = (s + 2 ^ (j + 1)) * (s + 2 ^ (j + 1)) := wrap_id (by have := sq_nonneg (s + 2 ^ (j + 1)); omega) (by omega)
    have w3 : IntKind.wrap .i64 (Int.tdiv (2 ^ (j + 1)) 2) = 2 ^ j := by rw [tdiv_two_pow]; exact wrap_id (by omega) (by omega)
    by_cases h : (s + 2 ^ (j + 1)) * (s + 2 ^ (j + 1)) ≤ N
    · obtain ⟨r, h1, h2, h3, h4, h5⟩ := ih f (s + 2 ^ (j + 1)) (by omega) (by omega) (by omega) h (by
        have : s + 2 ^ (j + 1) + 2 ^ j + 2 ^ j = s + 2 ^ (j + 1) + 2 ^ (j + 1) := by omega
        rw [this]; exact hlt)
      refine ⟨r, h1, h2, h3, h4, fun K0 => ?_⟩
      simp only [l_impl_squareRoot_5, w1, w2, w3, h, decide_true, cond_true, hp1]
      exact h5 K0
    · obtain ⟨r, h1, h2, h3, h4, h5⟩ := ih f s (by omega) hs (by omega) hle (by
        have : s + 2 ^ j + 2 ^ j = s + 2 ^ (j + 1) := by omega
        rw [this]; omega)
      refine ⟨r, h1, h2, h3, h4, fun K0 => ?_⟩
      simp only [l_impl_squareRoot_5, w1, w2, w3, h, decide_true, decide_false, cond_true, cond_false, hp1]
      exact h5 K0

/-- The root of a number, from below. -/
def IsRoot (N r : Int) : Prop := 0 ≤ r ∧ r < 2147483648 ∧ r * r ≤ N ∧ N < (r + 1) * (r + 1)

theorem IsRoot.unique {N r r' : Int} (h : IsRoot N r) (h' : IsRoot N r') : r = r' := by
  have h1 := lt_of_sq (x := r) (y := r' + 1) (by have := h'.1; omega) (by have := h.2.2.1; have := h'.2.2.2; omega)
  have h2 := lt_of_sq (x := r') (y := r + 1) (by have := h.1; omega) (by have := h'.2.2.1; have := h.2.2.2; omega)
  omega

theorem f_impl_squareRoot_root {R : Type} {k : Nat} (hk : 33 ≤ k) {N : Int} (h0 : 0 ≤ N) (h1 : N < 4611686018427387904) : ∃ r, IsRoot N r ∧ ∀ K : Int → Bool → Option R, f_impl_squareRoot k N K = K r (decide (r * r = N)) := by
  obtain ⟨r, h2, h3, h4, h5, h6⟩ := root_loop (R := R) k N h0 30 k 0 (by omega) (by omega) (by decide) (by simpa using h0) (by simpa using h1)
  refine ⟨r, ⟨h2, h3, h4, h5⟩, fun K => ?_⟩
  have e : (2 : Int) ^ 30 = 1073741824 := by decide
  rw [e] at h6
  have w : IntKind.wrap .i64 (r * r) = r * r := wrap_id (by have := sq_nonneg r; omega) (by omega)
  simp only [f_impl_squareRoot, show ¬ N < 0 by omega, decide_false, cond_false, h6, w]

theorem f_impl_squareRoot_neg {R : Type} {k : Nat} {N : Int} (h0 : N < 0) (K : Int → Bool → Option R) : f_impl_squareRoot k N K = K 0 false := by
  simp only [f_impl_squareRoot, h0, decide_true, cond_true]

theorem l5_loop {R : Type} (k : Nat) (N : Int) (h0 : 0 ≤ N) : ∀ (j fuel : Nat) (lo hi : Int), j < fuel → 0 ≤ lo → lo ≤ hi → hi ≤ 1048576 → hi - lo < 2 ^ j → (∀ x, 0 ≤ x → x < lo → x * x < N) → (hi = 1048576 ∨ N ≤ hi * hi) →
    ∃ m : Int, lo ≤ m ∧ m ≤ hi ∧ (∀ x, 0 ≤ x → x < m → x * x < N) ∧ (m = 1048576 ∨ N ≤ m * m) ∧ ∀ K0 : Int → Int → Option R, l_spec_l5Root_3 k fuel N lo hi K0 = K0 N m := by
  intro j
  induction j with
  | zero =>
    intro fuel lo hi hf h1 h2 h3 h4 h5 h6
    have e : (2 : Int) ^ 0 = 1 := rfl
    rw [e] at h4
    obtain rfl : lo = hi := by omega
    obtain ⟨f, rfl⟩ : ∃ f, fuel = f + 1 := ⟨fuel - 1, by omega⟩
    refine ⟨lo, by omega, by omega, h5, h6, fun K0 => ?_⟩
    simp only [l_spec_l5Root_3, show ¬ lo < lo by omega, decide_false, cond_false]
  | succ j ih =>
    intro fuel lo hi hf h1 h2 h3 h4 h5 h6
    obtain ⟨f, rfl⟩ : ∃ f, fuel = f + 1 := ⟨fuel - 1, by omega⟩
    have e : (2 : Int) ^ (j + 1) = 2 ^ j + 2 ^ j := by rw [Int.pow_succ]; omega
    by_cases hl : lo < hi
    · have w1 : IntKind.wrap .i64 (lo + hi) = lo + hi := wrap_id (by omega) (by omega)
      have hd : Int.tdiv (lo + hi) 2 = (lo + hi) / 2 := Int.tdiv_eq_ediv_of_nonneg (by omega)
      have w2 : IntKind.wrap .i64 (Int.tdiv (lo + hi) 2) = (lo + hi) / 2 := by rw [hd]; exact wrap_id (by omega) (by omega)
      generalize hm : (lo + hi) / 2 = m at w2
      have hm0 : lo ≤ m ∧ m < hi := by omega
      have hsq : m * m ≤ 1099511627776 := by
        have := sq_le (x := m) (y := 1048576) (by omega) (by omega)
        omega
      have w3 : IntKind.wrap .i64 (m * m) = m * m := wrap_id (by have := sq_nonneg m; omega) (by omega)
      have w4 : IntKind.wrap .i64 (m + 1) = m + 1 := wrap_id (by omega) (by omega)
      by_cases hc : m * m < N
      · obtain ⟨r, g1, g2, g_laws_FnTwoEach, g4, g5⟩ := ih f (m + 1) hi (by omega) (by omega) (by omega) h3 (by omega) (fun x hx hxm => by
          have := sq_le hx (show x ≤ m by omega)
          omega) h6
        refine ⟨r, by omega, g2, g_laws_FnTwoEach, g4, fun K0 => ?_⟩
        simp only [l_spec_l5Root_3, hl, w1, w2, w3, w4, hc, decide_true, cond_true]
        exact g5 K0
      · obtain ⟨r, g1, g2, g_laws_FnTwoEach, g4, g5⟩ := ih f lo m (by omega) h1 (by omega) (by omega) (by omega) h5 (.inr (by omega))
        refine ⟨r, g1, by omega, g_laws_FnTwoEach, g4, fun K0 => ?_⟩
        simp only [l_spec_l5Root_3, hl, w1, w2, w3, w4, hc, decide_true, decide_false, cond_true, cond_false]
        exact g5 K0
    · obtain rfl : lo = hi := by omega
      refine ⟨lo, by omega, by omega, h5, h6, fun K0 => ?_⟩
      simp only [l_spec_l5Root_3, show ¬ lo < lo by omega, decide_false, cond_false]

theorem f_spec_l5Root_root {R : Type} {k : Nat} (hk : 22 ≤ k) {N r : Int} (h0 : 0 ≤ N) (h1 : N ≤ 1099511627776) (hr : IsRoot N r) (K : Int → Option R) : f_spec_l5Root k N K = cond (decide (r * r = N)) (K r) (K (-1)) := by
  obtain ⟨m, h2, h3, h4, h5, h6⟩ := l5_loop (R := R) k N h0 21 k 0 1048576 (by omega) (by omega) (by omega) (by omega) (by decide) (fun x hx hx0 => by omega) (.inl rfl)
  have hsq : m * m ≤ 1099511627776 := by
    have := sq_le (x := m) (y := 1048576) (by omega) (by omega)
    omega
  have w : IntKind.wrap .i64 (m * m) = m * m := wrap_id (by have := sq_nonneg m; omega) (by omega)
  have hiff : m * m = N ↔ r * r = N := by
    constructor
    · intro h
      have : IsRoot N m := ⟨h2, by omega, by omega, by have := sq_lt h2 (show m < m + 1 by omega); omega⟩
      rw [hr.unique this]; exact h
    · intro h
      rcases (show r < m ∨ m ≤ r by omega) with hlt | hge
      · have := h4 r hr.1 hlt; omega
      · have h7 := sq_le h2 hge
        rcases h5 with h5 | h5
        · subst h5
          omega
        · omega
  have hmr : m * m = N → m = r := fun h => by
    have : IsRoot N m := ⟨h2, by omega, by omega, by have := sq_lt h2 (show m < m + 1 by omega); omega⟩
    exact this.unique hr
  simp only [f_spec_l5Root, h6, w]
  by_cases h : m * m = N
  · have h' := hiff.1 h
    have := hmr h
    subst this
    simp only [h, decide_true, cond_true]
  · have h' : ¬ r * r = N := fun e => h (hiff.2 e)
    simp only [h, h', decide_false, cond_false]

end Go.Proofs.Ytmmadcccjicdcaa.E
