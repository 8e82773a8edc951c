/- Ways of two squares: the program's loop (f_impl_twoWays) and the reference's (f_spec_l8Two) come to the same. -/
import Derived.Test.YtmmadcccjicdcaaM0
namespace Go.Proofs.Ytmmadcccjicdcaa.E
set_option linter.unusedVariables false
set_option linter.unusedSimpArgs false

theorem two_step {R : Type} {k : Nat} (hk : 33 ≤ k) {n x many : Int} (hn : n ≤ 2000) (h0 : 0 ≤ x) (hx : x ≤ 45) (hxx : x * x ≤ n) (hm0 : 0 ≤ many) (hm : many ≤ 4 * x) :
    ∃ c : Int, 0 ≤ c ∧ c ≤ 4 ∧ ((c = 4 ∧ 0 < x ∧ x * x ≠ n) ∨ (c = 2 ∧ 0 < x ∧ x * x = n) ∨ (c = 2 ∧ x = 0 ∧ 0 < n ∧ ∃ z, 0 < z ∧ z * z = n) ∨ (c = 1 ∧ x = 0 ∧ n = 0) ∨ (c = 0 ∧ x * x ≠ n ∧ (x = 0 → ∀ z, z * z ≠ n))) ∧
      ∀ (fuel : Nat) (K0 : Int → Option R), l_impl_twoWays_3 k (fuel + 1) n many x K0 = l_impl_twoWays_3 k fuel n (many + c) (x + 1) K0 ∧ l_spec_l8Two_3 k (fuel + 1) n many x K0 = l_spec_l8Two_3 k fuel n (many + c) (x + 1) K0 := by
  have hsq := sq_nonneg x
  have w1 : IntKind.wrap .i64 (x * x) = x * x := wrap_id (by omega) (by omega)
  have w2 : IntKind.wrap .i64 (n - x * x) = n - x * x := wrap_id (by omega) (by omega)
  have w3 : IntKind.wrap .i64 (x + 1) = x + 1 := wrap_id (by omega) (by omega)
  have w4 : IntKind.wrap .i64 (1 * 2) = 2 := by decide
  have w5 : IntKind.wrap .i64 (2 * 2) = 4 := by decide
  have w6 : IntKind.wrap .i64 (2 * 1) = 2 := by decide
  have w7 : IntKind.wrap .i64 (many + 4) = many + 4 := wrap_id (by omega) (by omega)
  have w8 : IntKind.wrap .i64 (many + 2) = many + 2 := wrap_id (by omega) (by omega)
  have w9 : IntKind.wrap .i64 (many + 1) = many + 1 := wrap_id (by omega) (by omega)
  obtain ⟨r, hr, h66⟩ := f_impl_squareRoot_root (R := R) hk (N := n - x * x) (by omega) (by omega)
  have h67 := fun K => f_spec_l5Root_root (R := R) (k := k) (by omega) (N := n - x * x) (r := r) (by omega) (by omega) hr K
  have hr0 := hr.1
  by_cases hs : r * r = n - x * x
  · have hs' : decide (r * r = n - x * x) = true := decide_eq_true hs
    by_cases hxp : 0 < x
    · by_cases hrp : 0 < r
      · have : 0 < r * r := Int.mul_pos hrp hrp
        refine ⟨4, by omega, by omega, .inl ⟨rfl, hxp, by omega⟩, fun fuel K0 => ⟨?_, ?_⟩⟩
        · simp only [l_impl_twoWays_3, w1, w2, w3, w4, w5, w7, w8, w9, h66, hs', hxx, hxp, hrp, decide_true, cond_true]
        · simp only [l_spec_l8Two_3, w1, w2, w3, w4, w5, w6, w7, w8, w9, h67, hs', hxx, hxp, hrp, hr0, decide_true, cond_true]
      · have : r = 0 := by omega
        subst this
        refine ⟨2, by omega, by omega, .inr (.inl ⟨rfl, hxp, by omega⟩), fun fuel K0 => ⟨?_, ?_⟩⟩
        · simp only [l_impl_twoWays_3, w1, w2, w3, w4, w5, w7, w8, w9, h66, hs', hxx, hxp, hrp, decide_true, decide_false, cond_true, cond_false]
        · simp only [l_spec_l8Two_3, w1, w2, w3, w4, w5, w6, w7, w8, w9, h67, hs', hxx, hxp, hrp, hr0, decide_true, decide_false, cond_true, cond_false]
    · have : x = 0 := by omega
      subst this
      by_cases hrp : 0 < r
      · have : 0 < r * r := Int.mul_pos hrp hrp
        refine ⟨2, by omega, by omega, .inr (.inr (.inl ⟨rfl, rfl, by omega, r, hrp, by omega⟩)), fun fuel K0 => ⟨?_, ?_⟩⟩
        · simp only [l_impl_twoWays_3, w1, w2, w3, w4, w5, w7, w8, w9, h66, hs', hxx, hxp, hrp, decide_true, decide_false, cond_true, cond_false]
        · simp only [l_spec_l8Two_3, w1, w2, w3, w4, w5, w6, w7, w8, w9, h67, hs', hxx, hxp, hrp, hr0, decide_true, decide_false, cond_true, cond_false]
      · have : r = 0 := by omega
        subst this
        refine ⟨1, by omega, by omega, .inr (.inr (.inr (.inl ⟨rfl, rfl, by omega⟩))), fun fuel K0 => ⟨?_, ?_⟩⟩
        · simp only [l_impl_twoWays_3, w1, w2, w3, w4, w5, w7, w8, w9, h66, hs', hxx, hxp, hrp, decide_true, decide_false, cond_true, cond_false]
        · simp only [l_spec_l8Two_3, w1, w2, w3, w4, w5, w6, w7, w8, w9, h67, hs', hxx, hxp, hrp, hr0, decide_true, decide_false, cond_true, cond_false]
  · refine ⟨0, by omega, by omega, .inr (.inr (.inr (.inr ⟨rfl, fun e => hs ?_, fun e z hz => hs ?_⟩))), fun fuel K0 => ⟨?_, ?_⟩⟩
    · have : r < 1 := lt_of_sq (by omega) (by have := hr.2.2.1; omega)
      have : r = 0 := by omega
      subst this
      omega
    · subst e
      rcases Int.le_total 0 z with hz0 | hz0
      · have h1 : z < r + 1 := lt_of_sq (by omega) (by have := hr.2.2.2; omega)
        have h2 : r < z + 1 := lt_of_sq (by omega) (by have := hr.2.2.1; have := sq_lt hz0 (show z < z + 1 by omega); omega)
        have : r = z := by omega
        subst this
        omega
      · have hneg : (-z) * (-z) = n := by rw [Int.neg_mul_neg]; exact hz
        have h1 : -z < r + 1 := lt_of_sq (by omega) (by have := hr.2.2.2; omega)
        have h2 : r < -z + 1 := lt_of_sq (by omega) (by have := hr.2.2.1; have := sq_lt (show 0 ≤ -z by omega) (show -z < -z + 1 by omega); omega)
        have : r = -z := by omega
        subst this
        omega
    · simp only [l_impl_twoWays_3, w1, w2, w3, h66, hs, hxx, decide_true, decide_false, cond_true, cond_false, Int.add_zero]
    · simp only [l_spec_l8Two_3, w1, w2, w3, h67, hs, hxx, decide_true, decide_false, cond_true, cond_false, Int.add_zero, show ¬ (0 : Int) ≤ -1 by omega]

theorem two_loop {R : Type} {k : Nat} (hk : 33 ≤ k) {n : Int} (hn0 : 0 ≤ n) (hn : n ≤ 2000) : ∀ (j fuel : Nat) (x many : Int), j < fuel → 1 ≤ x → 46 ≤ x + j → x ≤ 46 → 0 ≤ many → many ≤ 4 * x →
    ∃ S : Int, 0 ≤ S ∧ S ≤ 4 * j ∧ ((S % 4 = 0 ∧ ∀ z, x ≤ z → z * z ≠ n) ∨ (S % 4 = 2 ∧ ∃ z, x ≤ z ∧ z * z = n)) ∧ ∀ K0 : Int → Option R, l_impl_twoWays_3 k fuel n many x K0 = K0 (many + S) ∧ l_spec_l8Two_3 k fuel n many x K0 = K0 (many + S) := by
  intro j
  induction j with
  | zero =>
    intro fuel x many hf hx hj hx' h0 h1
    obtain ⟨f, rfl⟩ : ∃ f, fuel = f + 1 := ⟨fuel - 1, by omega⟩
    have : x = 46 := by omega
    subst this
    have w1 : IntKind.wrap .i64 (46 * 46) = 2116 := by decide
    refine ⟨0, by omega, by omega, .inl ⟨rfl, fun z hz e => ?_⟩, fun K0 => ⟨?_, ?_⟩⟩
    · have := sq_le (show (0 : Int) ≤ 46 by omega) hz
      omega
    · simp only [l_impl_twoWays_3, w1, show ¬ (2116 : Int) ≤ n by omega, decide_false, cond_false, Int.add_zero]
    · simp only [l_spec_l8Two_3, w1, show ¬ (2116 : Int) ≤ n by omega, decide_false, cond_false, Int.add_zero]
  | succ j ih =>
    intro fuel x many hf hx hj hx' h0 h1
    obtain ⟨f, rfl⟩ : ∃ f, fuel = f + 1 := ⟨fuel - 1, by omega⟩
    by_cases hxx : x * x ≤ n
    · have hx45 : x ≤ 45 := by
        have := lt_of_sq (x := x) (y := 46) (by omega) (by omega)
        omega
      obtain ⟨c, c0, c4, hc, hstep⟩ := two_step (R := R) hk hn (by omega) hx45 hxx h0 h1
      obtain ⟨S, s0, s1, hS, hrun⟩ := ih f (x + 1) (many + c) (by omega) (by omega) (by omega) (by omega) (by omega) (by omega)
      refine ⟨c + S, by omega, by omega, ?_, fun K0 => ?_⟩
      · have up : x * x ≠ n → (∀ z, x + 1 ≤ z → z * z ≠ n) → ∀ z, x ≤ z → z * z ≠ n := fun e h z hz => by
          rcases (show z = x ∨ x + 1 ≤ z by omega) with rfl | h'
          · exact e
          · exact h z h'
        rcases hc with ⟨rfl, _, hne⟩ | ⟨rfl, _, he⟩ | ⟨rfl, e, _⟩ | ⟨rfl, e, _⟩ | ⟨rfl, hne, _⟩
        · rcases hS with ⟨h2, h3⟩ | ⟨h2, z, h3, h4⟩
          · exact .inl ⟨by omega, up hne h3⟩
          · exact .inr ⟨by omega, z, by omega, h4⟩
        · rcases hS with ⟨h2, h3⟩ | ⟨h2, z, h3, h4⟩
          · exact .inr ⟨by omega, x, by omega, he⟩
          · have := sq_lt (show 0 ≤ x by omega) (show x < z by omega)
            omega
        · omega
        · omega
        · rcases hS with ⟨h2, h3⟩ | ⟨h2, z, h3, h4⟩
          · exact .inl ⟨by omega, up hne h3⟩
          · exact .inr ⟨by omega, z, by omega, h4⟩
      · rw [(hstep f K0).1, (hstep f K0).2, (hrun K0).1, (hrun K0).2, Int.add_assoc]
        exact ⟨rfl, rfl⟩
    · have hsq : x * x ≤ 2116 := by
        have := sq_le (x := x) (y := 46) (by omega) hx'
        omega
      have w1 : IntKind.wrap .i64 (x * x) = x * x := wrap_id (by have := sq_nonneg x; omega) (by omega)
      refine ⟨0, by omega, by omega, .inl ⟨rfl, fun z hz e => ?_⟩, fun K0 => ⟨?_, ?_⟩⟩
      · have := sq_le (show (0 : Int) ≤ x by omega) hz
        omega
      · simp only [l_impl_twoWays_3, w1, hxx, decide_false, cond_false, Int.add_zero]
      · simp only [l_spec_l8Two_3, w1, hxx, decide_false, cond_false, Int.add_zero]

/-- Both count the same; but for 0 it is a multiple of 4. -/
theorem two_ways {R : Type} {k : Nat} (hk : 48 ≤ k) {n : Int} (hn0 : 0 ≤ n) (hn : n ≤ 2000) : ∃ S : Int, 0 ≤ S ∧ (n = 0 → S = 1) ∧ (0 < n → Int.tmod S 4 = 0) ∧ ∀ K : Int → Option R, f_impl_twoWays k n K = K S ∧ f_spec_l8Two k n K = K S := by
  obtain ⟨f, hf⟩ : ∃ f, k = f + 1 := ⟨k - 1, by omega⟩
  obtain ⟨c, c0, c4, hc, hstep⟩ := two_step (R := R) (k := k) (by omega) (n := n) (x := 0) (many := 0) hn (by omega) (by omega) (by omega) (by omega) (by omega)
  rcases (show n = 0 ∨ 0 < n by omega) with rfl | hpos
  · have hc1 : c = 1 := by
      rcases hc with ⟨rfl, h, _⟩ | ⟨rfl, h, _⟩ | ⟨rfl, _, h, _⟩ | ⟨rfl, _, _⟩ | ⟨rfl, h, _⟩
      · omega
      · omega
      · omega
      · rfl
      · exact absurd rfl h
    subst hc1
    refine ⟨1, by omega, fun _ => rfl, fun h => by omega, fun K => ?_⟩
    have e1 : f_impl_twoWays k 0 K = l_impl_twoWays_3 k (f + 1) 0 0 0 K := by rw [← hf]; rfl
    have e2 : f_spec_l8Two k 0 K = l_spec_l8Two_3 k (f + 1) 0 0 0 K := by rw [← hf]; rfl
    rw [e1, e2, (hstep f K).1, (hstep f K).2]
    obtain ⟨g, rfl⟩ : ∃ g, f = g + 1 := ⟨f - 1, by omega⟩
    have w1 : IntKind.wrap .i64 ((0 + 1) * (0 + 1)) = 1 := by decide
    constructor
    · simp only [l_impl_twoWays_3, w1, show ¬ (1 : Int) ≤ 0 by omega, decide_false, cond_false]; rfl
    · simp only [l_spec_l8Two_3, w1, show ¬ (1 : Int) ≤ 0 by omega, decide_false, cond_false]; rfl
  obtain ⟨S, s0, s1, hS, hrun⟩ := two_loop (R := R) (k := k) (by omega) hn0 hn 45 f 1 c (by omega) (by omega) (by omega) (by omega) c0 (by omega)
  have hall : ∀ K : Int → Option R, f_impl_twoWays k n K = K (c + S) ∧ f_spec_l8Two k n K = K (c + S) := fun K => by
    have e1 : f_impl_twoWays k n K = l_impl_twoWays_3 k (f + 1) n 0 0 K := by rw [← hf]; rfl
    have e2 : f_spec_l8Two k n K = l_spec_l8Two_3 k (f + 1) n 0 0 K := by rw [← hf]; rfl
    rw [e1, e2, (hstep f K).1, (hstep f K).2]
    simp only [Int.zero_add]
    exact hrun K
  refine ⟨c + S, by omega, fun h => by omega, fun h => ?_, hall⟩
  · have hmod : (c + S) % 4 = 0 := by
      rcases hc with ⟨rfl, h, _⟩ | ⟨rfl, h, _⟩ | ⟨rfl, _, _, z, h1, h2⟩ | ⟨rfl, _, h⟩ | ⟨rfl, _, h1⟩
      · omega
      · omega
      · rcases hS with ⟨h4, h5⟩ | ⟨h4, _⟩
        · exact absurd h2 (h5 z (by omega))
        · omega
      · omega
      · rcases hS with ⟨h4, _⟩ | ⟨_, z, _, h6⟩
        · omega
        · exact absurd h6 (h1 rfl z)
    rw [Int.tmod_eq_emod_of_nonneg (by omega)]
    exact hmod

end Go.Proofs.Ytmmadcccjicdcaa.E
