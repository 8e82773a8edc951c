/- Cores, greatest divisors, primes and plain vectors: the program's functions and the reference's. -/
import Derived.Test.YtmmadcccjicdcaaG5a
import Derived.Test.YtmmadcccjicdcaaG5b
import Derived.Test.YtmmadcccjicdcaaC3
import Derived.Test.YtmmadcccjicdcaaN4
namespace Go.Proofs.Ytmmadcccjicdcaa.E
set_option linter.unusedVariables false
set_option linter.unusedSimpArgs false
set_option maxRecDepth 100000

theorem f_spec_l1Size_eq {R : Type} (k : Nat) {n : Int} (h : n.natAbs < 9223372036854775808) (K : Int → Option R) : f_spec_l1Size k n K = K (n.natAbs : Nat) := by
  have w : IntKind.wrap .i64 (0 - n) = -n := by
    by_cases e : n = -9223372036854775808
    · omega
    · rw [wrap_id (by omega) (by omega)]; omega
  simp only [f_spec_l1Size, w]
  by_cases hn : n < -n
  · simp only [hn, decide_true, cond_true]
    congr 1; omega
  · simp only [hn, decide_false, cond_false]
    congr 1; omega

theorem core_in {p : Int} (hp : 2 ≤ p) (hp2 : p ≤ 25000000) {R : Type} (k : Nat) : ∀ (f : Nat) (n r : Int), n ≠ 0 → n.natAbs < 2 ^ f → 0 < r → (n * (r * r)).natAbs ≤ 25000000 →
    ∃ m s : Int, m * (s * s) = n * (r * r) ∧ 0 < s ∧ m ∣ n ∧ ¬ p * p ∣ m ∧
      (∀ fuel, f < fuel → ∀ l a b (K0 : Int → Int → List Int → Int → Int → Option R), l_impl_coreOf_5 k fuel n r p l a b K0 = K0 m s l a b) ∧
      (∀ fuel, f < fuel → ∀ (K0 : Int → Int → Int → Option R), l_spec_l1Core_5 k fuel n r p K0 = K0 m s p)
  | 0, n, r, h0, hn, _, _ => by simp at hn; omega
  | f + 1, n, r, h0, hn, hr, hb => by
    have hpp : p * p ≤ 625000000000000 := by have := sq_le (x := p) (y := 25000000) (by omega) hp2; omega
    have hpp4 : 4 ≤ p * p := by have := sq_le (x := 2) (y := p) (by omega) hp; omega
    have w : IntKind.wrap .i64 (p * p) = p * p := wrap_id (by omega) (by omega)
    have hnn : n.natAbs * 1 ≤ n.natAbs * (r * r).natAbs := Nat.mul_le_mul_left _ (by have : 0 < r * r := Int.mul_pos hr hr; omega)
    have hna : n.natAbs ≤ 25000000 := by rw [Int.natAbs_mul] at hb; omega
    by_cases h : n.tmod (p * p) = 0
    · have hd : p * p ∣ n := Int.dvd_of_tmod_eq_zero h
      have he : n.tdiv (p * p) * (p * p) = n := Int.tdiv_mul_cancel hd
      have hle := tdiv_le hd (show 2 ≤ p * p by omega)
      generalize hm : n.tdiv (p * p) = m at *
      have hm0 : m ≠ 0 := fun e => by rw [e] at he; omega
      have hab : n.natAbs = m.natAbs * (p * p).natAbs := by rw [← Int.natAbs_mul, he]
      have hb2 : m.natAbs * 2 ≤ m.natAbs * (p * p).natAbs := Nat.mul_le_mul_left _ (by omega)
      have heq : m * (r * p * (r * p)) = n * (r * r) := by rw [← he]; grind
      have hrp : 0 < r * p := Int.mul_pos hr (by omega)
      have hrp2 : r * p ≤ 25000000 := by
        have e1 : (r * p).natAbs * 1 ≤ (r * p).natAbs * (r * p).natAbs := Nat.mul_le_mul_left _ (by omega)
        have e2 : 1 * ((r * p).natAbs * (r * p).natAbs) ≤ m.natAbs * ((r * p).natAbs * (r * p).natAbs) := Nat.mul_le_mul_right _ (by omega)
        have e3 : (m * (r * p * (r * p))).natAbs = m.natAbs * ((r * p).natAbs * (r * p).natAbs) := by rw [Int.natAbs_mul, Int.natAbs_mul]
        rw [heq] at e3
        omega
      have w1 : IntKind.wrap .i64 m = m := wrap_abs (by omega)
      have w2 : IntKind.wrap .i64 (r * p) = r * p := wrap_id (by omega) (by omega)
      obtain ⟨u, s, h1, h2, h3, h4, h5, h6⟩ := core_in hp hp2 (R := R) k f m (r * p) hm0 (by rw [Nat.pow_succ] at hn; omega) hrp (by rw [heq]; exact hb)
      refine ⟨u, s, by rw [h1, heq], h2, Int.dvd_trans h3 ⟨p * p, he.symm⟩, h4, fun fuel hf l a b K0 => ?_, fun fuel hf K0 => ?_⟩
      · obtain ⟨g, rfl⟩ : ∃ g, fuel = g + 1 := ⟨fuel - 1, by omega⟩
        simp only [l_impl_coreOf_5, w, show ¬ p * p = 0 by omega, decide_false, Bool.not_false, cond_true, h, decide_true, hm, w1, w2]
        exact h5 g (by omega) l a b K0
      · obtain ⟨g, rfl⟩ : ∃ g, fuel = g + 1 := ⟨fuel - 1, by omega⟩
        simp only [l_spec_l1Core_5, w, show ¬ p * p = 0 by omega, decide_false, Bool.not_false, cond_true, h, decide_true, hm, w1, w2]
        exact h6 g (by omega) K0
    · refine ⟨n, r, rfl, hr, Int.dvd_refl n, fun hd => h (Int.tmod_eq_zero_of_dvd hd), fun fuel hf l a b K0 => ?_, fun fuel hf K0 => ?_⟩
      · obtain ⟨g, rfl⟩ : ∃ g, fuel = g + 1 := ⟨fuel - 1, by omega⟩
        simp only [l_impl_coreOf_5, w, show ¬ p * p = 0 by omega, decide_false, Bool.not_false, cond_true, h, cond_false]
      · obtain ⟨g, rfl⟩ : ∃ g, fuel = g + 1 := ⟨fuel - 1, by omega⟩
        simp only [l_spec_l1Core_5, w, show ¬ p * p = 0 by omega, decide_false, Bool.not_false, cond_true, h, cond_false]

theorem abs_lt64 {n : Int} (h : n.natAbs ≤ 25000000) : n.natAbs < 2 ^ 64 := by omega

theorem abs_of_mul {n r N : Int} (hr : 0 < r) (h : n * (r * r) = N) (hN : N.natAbs ≤ 25000000) : n.natAbs ≤ 25000000 := by
  have e1 : N.natAbs = n.natAbs * (r * r).natAbs := by rw [← h, Int.natAbs_mul]
  have e2 : n.natAbs * 1 ≤ n.natAbs * (r * r).natAbs := Nat.mul_le_mul_left _ (by have : 0 < r * r := Int.mul_pos hr hr; omega)
  omega

theorem ne_of_mul {n r N : Int} (h : n * (r * r) = N) (hN : N ≠ 0) : n ≠ 0 := fun e => by rw [e] at h; omega

theorem icore_out {R : Type} {k : Nat} (hk : 5100 ≤ k) {N : Int} (hN0 : N ≠ 0) (hN : N.natAbs ≤ 25000000) (ps : List Int) (hl : ps.length ≤ 6000) (hps : ∀ p ∈ ps, 2 ≤ p ∧ p ≤ 25000000) : ∀ (j i : Nat) (n r : Int), i + j = ps.length → 0 < r → n * (r * r) = N →
    ∃ m s : Int, m * (s * s) = N ∧ 0 < s ∧ m ∣ n ∧ (∀ p ∈ ps.drop i, ¬ p * p ∣ m) ∧ ∀ fuel, j < fuel → ∀ K0 : Int → Int → Option R, l_impl_coreOf_3 k fuel n r ps (ps.length : Int) (i : Int) K0 = K0 m s
  | 0, i, n, r, hi, hr, he => by
    refine ⟨n, r, he, hr, Int.dvd_refl n, fun p hp => ?_, fun fuel hf K0 => ?_⟩
    · rw [List.drop_eq_nil_of_le (by omega)] at hp; cases hp
    · obtain ⟨g, rfl⟩ : ∃ g, fuel = g + 1 := ⟨fuel - 1, by omega⟩
      simp only [l_impl_coreOf_3, show ¬ (i : Int) < (ps.length : Int) by omega, decide_false, cond_false]
  | j + 1, i, n, r, hi, hr, he => by
    have hil : i < ps.length := by omega
    have hp := hps _ (getD_mem hil)
    have hd := getD_drop hil
    generalize ht : ps.getD i 0 = p at *
    obtain ⟨u, s, h1, h2, h3, h4, h5, _⟩ := core_in (R := R) hp.1 hp.2 k 64 n r (ne_of_mul he hN0) (abs_lt64 (abs_of_mul hr he hN)) hr (by rw [he]; exact hN)
    obtain ⟨m, s', g1, g2, g3, g4, g5⟩ := icore_out (R := R) hk hN0 hN ps hl hps j (i + 1) u s (by omega) h2 (by rw [h1, he])
    refine ⟨m, s', g1, g2, Int.dvd_trans g3 h3, fun q hq => ?_, fun fuel hf K0 => ?_⟩
    · rw [hd] at hq
      rcases List.mem_cons.1 hq with rfl | hq
      · exact fun h => h4 (Int.dvd_trans h g3)
      · exact g4 q hq
    · obtain ⟨g, rfl⟩ : ∃ g, fuel = g + 1 := ⟨fuel - 1, by omega⟩
      simp only [l_impl_coreOf_3, show (i : Int) < (ps.length : Int) by omega, show (0 : Int) ≤ (i : Int) by omega, Int.toNat_natCast, ht, decide_true, cond_true, Bool.and_self, h5 k (by omega), add_one (show i < 4611686018427387904 by omega)]
      exact g5 g (by omega) K0

theorem f_impl_coreOf_eq {R : Type} {k : Nat} (hk : 60000 ≤ k) {N : Int} (h0 : N ≠ 0) (hN : N.natAbs ≤ 25000000) (K : Int → Int → Option R) : f_impl_coreOf k N K = K (cor N) (rt N) := by
  obtain ⟨hm, hsorted⟩ := primesL_spec h0 hN
  have hlen := primesL_len N
  obtain ⟨m, s, h1, h2, h3, h4, h5⟩ := icore_out (R := R) (k := k) (by omega) h0 hN (primesL N) (by omega) (fun p hp => by
    have := (hm p).1 hp
    have h := le_of_dvd' this.2 h0 (by have := this.1.1; omega)
    exact ⟨this.1.1, by omega⟩) (primesL N).length 0 N 1 (by omega) (by omega) (by omega)
  have hcore : IsCore N m s := ⟨h1.symm, h2, sqf_of_primes fun p hp hd => by
    have hpN : p ∣ N := Int.dvd_trans (Int.dvd_trans ⟨p, rfl⟩ hd) h3
    exact h4 p ((hm p).2 ⟨hp, hpN⟩) hd⟩
  have := core_eq hcore
  rw [← this.1, ← this.2]
  simp only [f_impl_coreOf, f_impl_primesOf_eq (show 5100 ≤ k by omega) h0 hN]
  exact h5 k (by omega) _

theorem score_out {R : Type} {k : Nat} (hk : 5100 ≤ k) {N : Int} (hN0 : N ≠ 0) (hN : N.natAbs ≤ 25000000) : ∀ (f : Nat) (n r p : Int), 2 ≤ p → p + f = 5003 → 0 < r → n * (r * r) = N → (∀ d : Int, 2 ≤ d → d < p → ¬ d * d ∣ n) →
    ∃ m s : Int, m * (s * s) = N ∧ 0 < s ∧ Sqf m ∧ ∀ fuel, f < fuel → ∀ K0 : Int → Int → Option R, l_spec_l1Core_3 k fuel n r p K0 = K0 m s := by
  intro f
  have stop : ∀ (n r p : Int), 2 ≤ p → p ≤ 5003 → 0 < r → n * (r * r) = N → (∀ d : Int, 2 ≤ d → d < p → ¬ d * d ∣ n) → ¬ p * p ≤ (n.natAbs : Nat) → ∃ m s : Int, m * (s * s) = N ∧ 0 < s ∧ Sqf m ∧ ∀ fuel, 0 < fuel → ∀ K0 : Int → Int → Option R, l_spec_l1Core_3 k fuel n r p K0 = K0 m s := by
    intro n r p hp hp2 hr he hsq hpp
    have hna := abs_of_mul hr he hN
    have hn0 := ne_of_mul he hN0
    refine ⟨n, r, he, hr, fun d hd hdd => ?_, fun fuel hf K0 => ?_⟩
    · rcases Int.lt_or_le d p with h | h
      · exact hsq d hd h hdd
      · have h1 : p * p ≤ d * d := sq_le (by omega) h
        have h2 := le_of_dvd' hdd hn0 (by have : 0 < p * p := Int.mul_pos (by omega) (by omega); omega)
        omega
    · obtain ⟨g, rfl⟩ : ∃ g, fuel = g + 1 := ⟨fuel - 1, by omega⟩
      have hsq2 : p * p ≤ 25030009 := by have := sq_le (x := p) (y := 5003) (by omega) (by omega); omega
      have w : IntKind.wrap .i64 (p * p) = p * p := wrap_id (by have := sq_nonneg p; omega) (by omega)
      simp only [l_spec_l1Core_3, f_spec_l1Size_eq k (show n.natAbs < 9223372036854775808 by omega), w, hpp, decide_false, cond_false]
  induction f with
  | zero =>
    intro n r p hp hpf hr he hsq
    have hna := abs_of_mul hr he hN
    have : p = 5003 := by omega
    subst this
    exact stop n r 5003 hp (by omega) hr he hsq (by omega)
  | succ f ih =>
    intro n r p hp hpf hr he hsq
    by_cases hpp : p * p ≤ (n.natAbs : Nat)
    · have hna := abs_of_mul hr he hN
      have hn0 := ne_of_mul he hN0
      obtain ⟨u, s, h1, h2, h3, h4, _, h6⟩ := core_in (R := R) hp (show p ≤ 25000000 by omega) k 64 n r hn0 (abs_lt64 hna) hr (by rw [he]; exact hN)
      obtain ⟨m, s', g1, g2, g3, g4⟩ := ih u s (p + 1) (by omega) (by omega) h2 (by rw [h1, he]) (fun d hd hdp hdd => by
        rcases Int.lt_or_le d p with h | h
        · exact hsq d hd h (Int.dvd_trans hdd h3)
        · have : d = p := by omega
          subst this
          exact h4 hdd)
      refine ⟨m, s', g1, g2, g3, fun fuel hf K0 => ?_⟩
      obtain ⟨g, rfl⟩ : ∃ g, fuel = g + 1 := ⟨fuel - 1, by omega⟩
      have hsq2 : p * p ≤ 25030009 := by have := sq_le (x := p) (y := 5003) (by omega) (by omega); omega
      have w : IntKind.wrap .i64 (p * p) = p * p := wrap_id (by have := sq_nonneg p; omega) (by omega)
      have w2 : IntKind.wrap .i64 (p + 1) = p + 1 := wrap_id (by omega) (by omega)
      simp only [l_spec_l1Core_3, f_spec_l1Size_eq k (show n.natAbs < 9223372036854775808 by omega), w, hpp, decide_true, cond_true, h6 k (by omega), w2]
      exact g4 g (by omega) K0
    · obtain ⟨m, s, h1, h2, h3, h4⟩ := stop n r p hp (by omega) hr he hsq hpp
      exact ⟨m, s, h1, h2, h3, fun fuel hf K0 => h4 fuel (by omega) K0⟩

theorem f_spec_l1Core_eq {R : Type} {k : Nat} (hk : 60000 ≤ k) {N : Int} (h0 : N ≠ 0) (hN : N.natAbs ≤ 25000000) (K : Int → Int → Option R) : f_spec_l1Core k N K = K (cor N) (rt N) := by
  obtain ⟨m, s, h1, h2, h3, h4⟩ := score_out (R := R) (k := k) (by omega) h0 hN 5001 N 1 2 (by omega) (by omega) (by omega) (by omega) (fun d h1 h2 => by omega)
  have := core_eq (n := N) ⟨h1.symm, h2, h3⟩
  rw [← this.1, ← this.2]
  exact h4 k (by omega) _

/- greatest divisors -/
theorem sgcd_loop {R : Type} (k : Nat) : ∀ (j fuel a b : Nat), b < 2 ^ j → 2 * j + 1 < fuel → ∀ K0 : Int → Option R, l_spec_l1Gcd_3 k fuel (a : Int) (b : Int) K0 = K0 ((Nat.gcd a b : Nat) : Int) := by
  have zero : ∀ (fuel a : Nat) (K0 : Int → Option R), l_spec_l1Gcd_3 k (fuel + 1) (a : Int) ((0 : Nat) : Int) K0 = K0 (a : Int) := fun fuel a K0 => by
    simp only [l_spec_l1Gcd_3, show ((0 : Nat) : Int) = 0 from rfl, decide_true, Bool.not_true, cond_false]
  have step : ∀ (fuel a b : Nat) (K0 : Int → Option R), b ≠ 0 → l_spec_l1Gcd_3 k (fuel + 1) (a : Int) (b : Int) K0 = l_spec_l1Gcd_3 k fuel (b : Int) ((a % b : Nat) : Int) K0 := fun fuel a b K0 hb => by
    have e : Int.tmod (a : Int) (b : Int) = ((a % b : Nat) : Int) := by rw [Int.tmod_eq_emod_of_nonneg (by omega)]; exact (Int.natCast_emod a b).symm
    simp only [l_spec_l1Gcd_3, show ¬ (b : Int) = 0 by omega, decide_false, Bool.not_false, cond_true, e]
  intro j
  induction j with
  | zero =>
    intro fuel a b hb hf K0
    obtain ⟨g, rfl⟩ : ∃ g, fuel = g + 1 := ⟨fuel - 1, by omega⟩
    have : b = 0 := by simp at hb; exact hb
    subst this
    rw [zero, Nat.gcd_zero_right]
  | succ j ih =>
    intro fuel a b hb hf K0
    obtain ⟨g, rfl⟩ : ∃ g, fuel = g + 2 := ⟨fuel - 2, by omega⟩
    by_cases h0 : b = 0
    · subst h0; rw [zero, Nat.gcd_zero_right]
    rw [step _ _ _ _ h0, gcd_step a b]
    by_cases h1 : a % b = 0
    · rw [h1, zero, Nat.gcd_zero_right]
    · rw [step _ _ _ _ h1, gcd_step b (a % b)]
      have hlt : a % b < b := Nat.mod_lt _ (by omega)
      have hm := Nat.div_add_mod b (a % b)
      have hq : 1 ≤ b / (a % b) := (Nat.one_le_div_iff (by omega)).2 (by omega)
      have hr : b % (a % b) < a % b := Nat.mod_lt _ (by omega)
      have hmul : (a % b) * 1 ≤ (a % b) * (b / (a % b)) := Nat.mul_le_mul_left _ hq
      exact ih g (a % b) (b % (a % b)) (by rw [Nat.pow_succ] at hb; omega) (by omega) K0

theorem f_spec_l1Gcd_eq {R : Type} {k : Nat} (hk : 200 ≤ k) {a b : Int} (ha : a.natAbs < 9223372036854775808) (hb : b.natAbs < 9223372036854775808) (K : Int → Option R) : f_spec_l1Gcd k a b K = K (Nat.gcd a.natAbs b.natAbs : Nat) := by
  simp only [f_spec_l1Gcd, f_spec_l1Size_eq k ha, f_spec_l1Size_eq k hb]
  exact sgcd_loop k 63 k a.natAbs b.natAbs (by omega) (by omega) _

/- primes -/
theorem sdiv_loop {R : Type} (k : Nat) {p : Int} (hp : 2 ≤ p) (acc : List Int) : ∀ (f fuel c : Nat) (n : Int), n ≠ 0 → n.natAbs < 2 ^ f → n.natAbs < 9223372036854775808 → f < fuel → ∀ K0 : Int → Int → List Int → Option R,
    l_spec_l1Primes_8 k fuel n p acc K0 = K0 (spl f c n p).2 p acc
  | 0, fuel, c, n, h0, hn, _, _, K0 => by simp at hn; omega
  | f + 1, fuel, c, n, h0, hn, hb, hf, K0 => by
    obtain ⟨g, rfl⟩ : ∃ g, fuel = g + 1 := ⟨fuel - 1, by omega⟩
    have hp0 : ¬ p = 0 := by omega
    by_cases h : n.tmod p = 0
    · have hd : p ∣ n := Int.dvd_of_tmod_eq_zero h
      have he : n.tdiv p * p = n := Int.tdiv_mul_cancel hd
      have hle := tdiv_le hd hp
      have w1 : IntKind.wrap .i64 (n.tdiv p) = n.tdiv p := wrap_abs (by omega)
      have hm0 : n.tdiv p ≠ 0 := fun e => by rw [e] at he; omega
      have hab : n.natAbs = (n.tdiv p).natAbs * p.natAbs := by rw [← Int.natAbs_mul, he]
      have hb2 : (n.tdiv p).natAbs * 2 ≤ (n.tdiv p).natAbs * p.natAbs := Nat.mul_le_mul_left _ (by omega)
      have ih := sdiv_loop (R := R) k hp acc f g (c + 1) (n.tdiv p) hm0 (by rw [Nat.pow_succ] at hn; omega) (by omega) (by omega) K0
      simp only [l_spec_l1Primes_8, hp0, decide_false, Bool.not_false, cond_true, h, decide_true, w1, ih, spl, if_true]
    · simp only [l_spec_l1Primes_8, hp0, decide_false, Bool.not_false, cond_true, h, cond_false, spl, if_false]

theorem sprimes_loop {R : Type} {k : Nat} (hk : 100 ≤ k) : ∀ (f fuel : Nat) (n p : Int) (acc : List Int), 0 < n → n ≤ 25000000 → 2 ≤ p → p + f = 5003 → f < fuel → acc.length + f ≤ 100000 → ∀ K0 : Int → List Int → Option R,
    l_spec_l1Primes_4 k fuel n p acc K0 = K0 (prs f n p acc).1 (prs f n p acc).2 := by
  intro f
  induction f with
  | zero =>
    intro fuel n p acc h0 h1 h2 h3 h4 h5 K0
    obtain ⟨g, rfl⟩ : ∃ g, fuel = g + 1 := ⟨fuel - 1, by omega⟩
    have : p = 5003 := by omega
    subst this
    have w : IntKind.wrap .i64 (5003 * 5003) = 25030009 := by decide
    simp only [l_spec_l1Primes_4, w, show ¬ (25030009 : Int) ≤ n by omega, decide_false, cond_false, prs]
  | succ f ih =>
    intro fuel n p acc h0 h1 h2 h3 h4 h5 K0
    obtain ⟨g, rfl⟩ : ∃ g, fuel = g + 1 := ⟨fuel - 1, by omega⟩
    have hsq : p * p ≤ 25030009 := by have := sq_le (x := p) (y := 5003) (by omega) (by omega); omega
    have w : IntKind.wrap .i64 (p * p) = p * p := wrap_id (by have := sq_nonneg p; omega) (by omega)
    have w2 : IntKind.wrap .i64 (p + 1) = p + 1 := wrap_id (by omega) (by omega)
    have hdl : ∀ (acc : List Int) (K0 : Int → Int → List Int → Option R), l_spec_l1Primes_8 k k n p acc K0 = K0 (unt n p) p acc := fun acc K0 => sdiv_loop k h2 acc 64 k 0 n (by omega) (by omega) (by omega) (by omega) K0
    unfold prs
    by_cases hpp : p * p ≤ n
    · by_cases hd : n.tmod p = 0
      · obtain ⟨u1, u2⟩ := unt_pos (n := n) h2 h0 (by omega)
        simp only [l_spec_l1Primes_4, w, w2, hpp, show ¬ p = 0 by omega, decide_true, decide_false, Bool.not_false, cond_true, if_true, hd, ble_lim (show acc.length + 1 ≤ 4294967296 by omega), hdl]
        exact ih g (unt n p) (p + 1) (acc ++ [p]) u1 (by omega) (by omega) (by omega) (by omega) (by simp; omega) K0
      · have hu : unt n p = n := by
          unfold unt spl
          rw [if_neg hd]
        simp only [l_spec_l1Primes_4, w, w2, hpp, show ¬ p = 0 by omega, decide_true, decide_false, Bool.not_false, cond_true, cond_false, if_true, if_false, hd, hdl, hu]
        exact ih g n (p + 1) acc h0 h1 (by omega) (by omega) (by omega) (by omega) K0
    · simp only [l_spec_l1Primes_4, w, hpp, decide_false, cond_false, if_false]

theorem f_spec_l1Primes_eq {R : Type} {k : Nat} (hk : 5100 ≤ k) {n : Int} (h0 : n ≠ 0) (hn : n.natAbs ≤ 25000000) (K : List Int → Option R) : f_spec_l1Primes k n K = K (primesL n) := by
  have h := sprimes_loop (R := R) (k := k) (by omega) 5001 k (n.natAbs : Nat) 2 [] (by omega) (by omega) (by omega) (by omega) (by omega) (by simp)
  have hlen := prs_len 5001 (n.natAbs : Nat) 2 []
  simp only [f_spec_l1Primes, f_spec_l1Size_eq k (show n.natAbs < 9223372036854775808 by omega), h, primesL]
  simp only [List.length_nil] at hlen
  by_cases h1 : 1 < (prs 5001 (n.natAbs : Nat) 2 []).1
  · simp only [h1, decide_true, cond_true, if_true, ble_lim (show (prs 5001 (n.natAbs : Nat) 2 []).2.length + 1 ≤ 4294967296 by omega)]
  · simp only [h1, decide_false, cond_false, if_false]

end Go.Proofs.Ytmmadcccjicdcaa.E
