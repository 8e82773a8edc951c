/- What the program's functions on primes, rests and symbols come to. -/
import Derived.Test.YtmmadcccjicdcaaG4b
import Derived.Test.YtmmadcccjicdcaaM2
import Derived.Test.YtmmadcccjicdcaaN3
namespace Go.Proofs.Ytmmadcccjicdcaa.E
set_option linter.unusedVariables false
set_option linter.unusedSimpArgs false

theorem wrap_abs {n : Int} (h : n.natAbs < 9223372036854775808) : IntKind.wrap .i64 n = n := wrap_id (by omega) (by omega)

theorem tdiv_le {n p : Int} (h : p ∣ n) (hp : 2 ≤ p) : (n.tdiv p).natAbs ≤ n.natAbs := by
  have he : n.tdiv p * p = n := Int.tdiv_mul_cancel h
  generalize n.tdiv p = m at *
  have hab : n.natAbs = m.natAbs * p.natAbs := by rw [← he, Int.natAbs_mul]
  have : m.natAbs * 1 ≤ m.natAbs * p.natAbs := Nat.mul_le_mul_left _ (by omega)
  omega

theorem split_loop {R : Type} (k : Nat) {p : Int} (hp : 2 ≤ p) : ∀ (f fuel c : Nat) (n : Int), n ≠ 0 → n.natAbs < 2 ^ f → n.natAbs < 9223372036854775808 → f < fuel → c + f ≤ 100 → ∀ K0 : Int → Int → Option R,
    l_impl_split_2 k fuel n p (c : Int) K0 = K0 (spl f c n p).2 (((spl f c n p).1 : Nat) : Int)
  | 0, fuel, c, n, h0, hn, _, _, _, K0 => by simp at hn; omega
  | f + 1, fuel, c, n, h0, hn, hb, hf, hc, K0 => by
    obtain ⟨g, rfl⟩ : ∃ g, fuel = g + 1 := ⟨fuel - 1, by omega⟩
    have hp0 : ¬ p = 0 := by omega
    by_cases h : n.tmod p = 0
    · have hd : p ∣ n := Int.dvd_of_tmod_eq_zero h
      have he : n.tdiv p * p = n := Int.tdiv_mul_cancel hd
      have hle := tdiv_le hd hp
      have w1 : IntKind.wrap .i64 (n.tdiv p) = n.tdiv p := wrap_abs (by omega)
      have w2 : IntKind.wrap .i64 ((c : Int) + 1) = ((c + 1 : Nat) : Int) := by rw [wrap_id (by omega) (by omega)]; omega
      have hm0 : n.tdiv p ≠ 0 := fun e => by rw [e] at he; omega
      have hab : n.natAbs = (n.tdiv p).natAbs * p.natAbs := by rw [← Int.natAbs_mul, he]
      have hb2 : (n.tdiv p).natAbs * 2 ≤ (n.tdiv p).natAbs * p.natAbs := Nat.mul_le_mul_left _ (by omega)
      have ih := split_loop (R := R) k hp f g (c + 1) (n.tdiv p) hm0 (by rw [Nat.pow_succ] at hn; omega) (by omega) (by omega) (by omega) K0
      simp only [l_impl_split_2, hp0, decide_false, Bool.not_false, cond_true, h, decide_true, w1, w2, ih, spl, if_true]
    · simp only [l_impl_split_2, hp0, decide_false, Bool.not_false, cond_true, h, cond_false, spl, if_false]

theorem f_impl_split_eq {R : Type} {k : Nat} (hk : 100 ≤ k) {n p : Int} (hp : 2 ≤ p) (h0 : n ≠ 0) (hn : n.natAbs < 9223372036854775808) (K : Int → Int → Option R) : f_impl_split k n p K = K (val n p : Nat) (unt n p) := by
  have := split_loop (R := R) k hp 64 k 0 n h0 (by omega) hn (by omega) (by omega) (fun y4 y5 => K y5 y4)
  exact this

theorem tmod_emod {n m : Int} (hm : 0 < m) : Int.tmod n m = n % m ∨ Int.tmod n m = n % m - m := by
  rcases Int.le_total 0 n with h | h
  · left; exact Int.tmod_eq_emod_of_nonneg h
  · have h1 : Int.tmod n m = -(Int.tmod (-n) m) := by rw [Int.neg_tmod]; omega
    rw [h1, Int.tmod_eq_emod_of_nonneg (by omega)]
    have a := Int.emod_nonneg (-n) (show m ≠ 0 by omega)
    have b := Int.emod_lt_of_pos (-n) hm
    have c := Int.emod_nonneg n (show m ≠ 0 by omega)
    have d := Int.emod_lt_of_pos n hm
    have e := Int.mul_ediv_add_emod (-n) m
    have f := Int.mul_ediv_add_emod n m
    have g : m ∣ n % m + (-n) % m := ⟨-(n / m) - (-n) / m, by rw [Int.mul_sub, Int.mul_neg]; omega⟩
    obtain ⟨t, ht⟩ := g
    have : t = 0 ∨ t = 1 := by
      rcases Int.lt_or_le t 0 with h | h
      · have : m * t ≤ m * (-1) := Int.mul_le_mul_of_nonneg_left (by omega) (by omega)
        omega
      · rcases Int.lt_or_le 1 t with h' | h'
        · have : m * 2 ≤ m * t := Int.mul_le_mul_of_nonneg_left (by omega) (by omega)
          omega
        · omega
    rcases this with rfl | rfl
    · left; omega
    · right; omega

theorem f_impl_rest_eq {R : Type} (k : Nat) {n m : Int} (h1 : 0 < m) (h2 : m < 4611686018427387904) (K : Int → Option R) : f_impl_rest k n m K = K (n % m) := by
  have a := Int.emod_nonneg n (show m ≠ 0 by omega)
  have b := Int.emod_lt_of_pos n h1
  have w : IntKind.wrap .i64 (Int.tmod n m + m) = Int.tmod n m + m := by
    rcases tmod_emod (n := n) h1 with h | h <;> rw [h] <;> exact wrap_id (by omega) (by omega)
  have e : Int.tmod (Int.tmod n m + m) m = n % m := by
    rcases tmod_emod (n := n) h1 with h | h <;> rw [h]
    · rw [Int.tmod_eq_emod_of_nonneg (by omega), Int.add_emod_right, Int.emod_emod_of_dvd _ (Int.dvd_refl m)]
    · have : n % m - m + m = n % m := by omega
      rw [this, Int.tmod_eq_emod_of_nonneg a, Int.emod_emod_of_dvd _ (Int.dvd_refl m)]
  simp only [f_impl_rest, show ¬ m = 0 by omega, decide_false, Bool.not_false, cond_true, w, e]

theorem residue_loop {R : Type} (k : Nat) {p r : Int} (hp : 0 < p) (hp2 : p ≤ 10000) : ∀ (j fuel : Nat) (x : Int), 1 ≤ x → x + j = p / 2 + 1 → j < fuel → ∀ (K0 : Int → Option R) (K1 : Option R),
    l_impl_residue_5 k fuel p r x K0 K1 = (open Classical in if ∃ y : Int, x ≤ y ∧ y ≤ p / 2 ∧ y * y % p = r then K0 1 else K1)
  | 0, fuel, x, hx, hj, hf, K0, K1 => by
    obtain ⟨g, rfl⟩ : ∃ g, fuel = g + 1 := ⟨fuel - 1, by omega⟩
    have w : IntKind.wrap .i64 (Int.tdiv p 2) = p / 2 := by rw [Int.tdiv_eq_ediv_of_nonneg (by omega)]; exact wrap_id (by omega) (by omega)
    rw [if_neg (by rintro ⟨y, h1, h2, _⟩; omega)]
    simp only [l_impl_residue_5, w, show ¬ x ≤ p / 2 by omega, decide_false, cond_false]
  | j + 1, fuel, x, hx, hj, hf, K0, K1 => by
    obtain ⟨g, rfl⟩ : ∃ g, fuel = g + 1 := ⟨fuel - 1, by omega⟩
    have w : IntKind.wrap .i64 (Int.tdiv p 2) = p / 2 := by rw [Int.tdiv_eq_ediv_of_nonneg (by omega)]; exact wrap_id (by omega) (by omega)
    have hsq : x * x ≤ 100000000 := by have := sq_le (x := x) (y := 10000) (by omega) (by omega); omega
    have hsq0 := sq_nonneg x
    have w2 : IntKind.wrap .i64 (x * x) = x * x := wrap_id (by omega) (by omega)
    have w3 : IntKind.wrap .i64 (x + 1) = x + 1 := wrap_id (by omega) (by omega)
    have e : Int.tmod (x * x) p = x * x % p := Int.tmod_eq_emod_of_nonneg hsq0
    have ih := residue_loop (R := R) k (r := r) hp hp2 j g (x + 1) (by omega) (by omega) (by omega) K0 K1
    by_cases h : x * x % p = r
    · rw [if_pos ⟨x, Int.le_refl _, by omega, h⟩]
      simp only [l_impl_residue_5, w, w2, e, h, show x ≤ p / 2 by omega, show ¬ p = 0 by omega, decide_true, decide_false, Bool.not_false, cond_true]
    · simp only [l_impl_residue_5, w, w2, w3, e, h, show x ≤ p / 2 by omega, show ¬ p = 0 by omega, decide_true, decide_false, Bool.not_false, cond_true, cond_false, ih]
      have : (∃ y : Int, x + 1 ≤ y ∧ y ≤ p / 2 ∧ y * y % p = r) ↔ ∃ y : Int, x ≤ y ∧ y ≤ p / 2 ∧ y * y % p = r := by
        constructor
        · rintro ⟨y, h1, h2, h3⟩; exact ⟨y, by omega, h2, h3⟩
        · rintro ⟨y, h1, h2, h3⟩
          refine ⟨y, ?_, h2, h3⟩
          rcases (show y = x ∨ x + 1 ≤ y by omega) with rfl | h4
          · exact absurd h3 h
          · exact h4
      by_cases h9 : ∃ y : Int, x ≤ y ∧ y ≤ p / 2 ∧ y * y % p = r
      · rw [if_pos h9, if_pos (this.2 h9)]
      · rw [if_neg h9, if_neg (fun h => h9 (this.1 h))]

theorem f_impl_residue_eq {R : Type} {k : Nat} (hk : 5100 ≤ k) {n p : Int} (hp : 0 < p) (hp2 : p ≤ 10000) (K : Int → Option R) : f_impl_residue k n p K = K (resd n p) := by
  have h := residue_loop (R := R) k (r := n % p) hp hp2 (p / 2).toNat k 1 (by omega) (by omega) (by omega) (fun y => K y) (K (-1))
  simp only [f_impl_residue, f_impl_rest_eq k hp (show p < 4611686018427387904 by omega), h, resd]
  by_cases h0 : n % p = 0
  · simp only [h0, decide_true, cond_true, if_true]
  · simp only [h0, decide_false, cond_false, if_false]
    have : (∃ y : Int, 1 ≤ y ∧ y ≤ p / 2 ∧ y * y % p = n % p) ↔ hasRoot (n % p) p (p / 2).toNat = true := by
      rw [hasRoot_iff]
      constructor
      · rintro ⟨y, h1, h2, h3⟩; exact ⟨y, h1, by omega, h3⟩
      · rintro ⟨y, h1, h2, h3⟩; exact ⟨y, h1, by omega, h3⟩
    by_cases hr : hasRoot (n % p) p (p / 2).toNat = true
    · rw [if_pos (this.2 hr), if_pos hr]
    · rw [if_neg (fun h => hr (this.1 h)), if_neg hr]

def sg (b : Bool) : Int := if b then -1 else 1
theorem sg_mul (a b : Bool) : sg a * sg b = sg (a ^^ b) := by cases a <;> cases b <;> decide
theorem sg_wrap (a : Bool) : IntKind.wrap .i64 (sg a) = sg a := by cases a <;> decide
theorem sg_eq (a b : Bool) : decide (sg a = sg b) = (a == b) := by cases a <;> cases b <;> decide

theorem f_impl_power_eq {R : Type} {k : Nat} (hk : 2 ≤ k) {n e : Int} (he : e = 0 ∨ e = 1) (hn : n.natAbs < 9223372036854775808) (K : Int → Option R) : f_impl_power k n e K = K (if e = 1 then n else 1) := by
  obtain ⟨g, rfl⟩ : ∃ g, k = g + 2 := ⟨k - 2, by omega⟩
  have w1 : IntKind.wrap .i64 (1 * n) = n := by rw [Int.one_mul]; exact wrap_abs hn
  have w2 : IntKind.wrap .i64 (0 + 1) = 1 := by decide
  rcases he with rfl | rfl
  · simp only [f_impl_power, l_impl_power_3, show ¬ (0 : Int) < 0 by omega, decide_false, cond_false, show ¬ (0 : Int) = 1 by omega, if_false]
  · simp only [f_impl_power, l_impl_power_3, w1, w2, show (0 : Int) < 1 by omega, show ¬ (1 : Int) < 1 by omega, decide_true, cond_true, decide_false, cond_false, if_true]

/-- A number that can be asked of: not 0, and small. -/
def Sm (n : Int) : Prop := n ≠ 0 ∧ n.natAbs < 4611686018427387904
/-- A place. -/
def Plc (p : Int) : Prop := p = 0 ∨ (Pr p ∧ p ≤ 5000)

theorem pow_ge (p : Int) (hp : 2 ≤ p) (k : Nat) : (2 : Int) ^ k ≤ p ^ k := by
  induction k with
  | zero => simp
  | succ k ih =>
    rw [Int.pow_succ, Int.pow_succ]
    have h1 : (0 : Int) < 2 ^ k := Int.pow_pos (by decide)
    exact Int.mul_le_mul ih hp (by omega) (by omega)

theorem val_small {n p : Int} (hp : 2 ≤ p) (h0 : n ≠ 0) (hn : n.natAbs < 2 ^ 64) : (val n p : Nat) ≤ 64 := (val_spec hp h0 hn).2.2.1

theorem mod2 (n : Nat) : Int.tmod (n : Int) 2 = ((n % 2 : Nat) : Int) := by rw [Int.tmod_eq_emod_of_nonneg (by omega)]; omega

theorem odd_one {n p : Int} : (decide (((val n p % 2 : Nat) : Int) = 1)) = odd n p := by
  unfold odd
  congr 1
  exact propext ⟨fun h => by omega, fun h => by omega⟩

theorem f_impl_localSquare_eq {R : Type} {k : Nat} (hk : 5100 ≤ k) {n p : Int} (hn : Sm n) (hp : Plc p) (K : Bool → Option R) : f_impl_localSquare k n p K = K (lsq n p) := by
  obtain ⟨h0, h1⟩ := hn
  rcases hp with rfl | ⟨hp, hp5⟩
  · simp only [f_impl_localSquare, lsq, decide_true, cond_true, if_true]
  have hp2 := hp.1
  have hs := val_spec (n := n) (p := p) hp2 h0 (by omega)
  simp only [f_impl_localSquare, show ¬ p = 0 by omega, decide_false, cond_false, f_impl_split_eq (show 100 ≤ k by omega) hp2 h0 (show n.natAbs < 9223372036854775808 by omega), mod2, lsq, if_false]
  rcases (show val n p % 2 = 0 ∨ val n p % 2 = 1 by omega) with ho | ho
  · have : odd n p = false := decide_eq_false (by omega)
    rw [this]
    simp only [ho, show ((0 : Nat) : Int) = 0 from rfl, decide_true, Bool.not_true, cond_false, Bool.not_false, Bool.true_and]
    by_cases hp3 : p = 2
    · subst hp3
      simp only [decide_true, cond_true, if_true, f_impl_rest_eq k (show (0 : Int) < 8 by omega) (show (8 : Int) < 4611686018427387904 by omega)]
    · simp only [hp3, decide_false, cond_false, if_false, f_impl_residue_eq hk (show 0 < p by omega) (show p ≤ 10000 by omega)]
      congr 1
      rw [resd_nb hs.2.1]
      cases nb (unt n p) p <;> decide
  · have : odd n p = true := decide_eq_true (by omega)
    rw [this]
    simp only [ho, show ((1 : Nat) : Int) = 1 from rfl, show ¬ (1 : Int) = 0 by omega, decide_false, Bool.not_false, cond_true, Bool.not_true, Bool.false_and]

theorem f_impl_symbol_odd {R : Type} {k : Nat} (hk : 5100 ≤ k) {a b p : Int} (ha : Sm a) (hb : Sm b) (hp : Pr p) (hp5 : p ≤ 5000) (h2 : p ≠ 2) (K : Int → Option R) : f_impl_symbol k a b p K = K (sg (symb a b p)) := by
  have hp2 := hp.1
  have hs := val_spec (n := a) (p := p) hp2 ha.1 (by have := ha.2; omega)
  have ht := val_spec (n := b) (p := p) hp2 hb.1 (by have := hb.2; omega)
  have hA := ha.2
  have hB := hb.2
  have hodd : p % 2 = 1 := by
    rcases (show p % 2 = 0 ∨ p % 2 = 1 by omega) with h | h
    · rcases hp.div (d := 2) (by omega) ⟨p / 2, by omega⟩ with h | h <;> omega
    · exact h
  generalize hi : val a p = i at *
  generalize hj : val b p = j at *
  have hoi : odd a p = decide (i % 2 = 1) := by unfold odd; rw [hi]
  have hoj : odd b p = decide (j % 2 = 1) := by unfold odd; rw [hj]
  have hij : (i : Int) * (j : Int) = ((i * j : Nat) : Int) := by rw [Int.natCast_mul]
  have hijb : i * j ≤ 64 * 64 := Nat.mul_le_mul hs.2.2.1 ht.2.2.1
  have hq0 : 0 ≤ ((i * j : Nat) : Int) * (p - 1) := Int.mul_nonneg (by omega) (by omega)
  have hq1 : ((i * j : Nat) : Int) * (p - 1) ≤ 4096 * 5000 := Int.mul_le_mul (by omega) (by omega) (by omega) (by omega)
  have w1 : IntKind.wrap .i64 (((i * j : Nat) : Int)) = ((i * j : Nat) : Int) := wrap_id (by omega) (by omega)
  have w2 : IntKind.wrap .i64 (p - 1) = p - 1 := wrap_id (by omega) (by omega)
  have w3 : IntKind.wrap .i64 (((i * j : Nat) : Int) * (p - 1)) = ((i * j : Nat) : Int) * (p - 1) := wrap_id (by omega) (by omega)
  have hdiv : Int.tdiv (((i * j : Nat) : Int) * (p - 1)) 2 = ((i * j : Nat) : Int) * ((p - 1) / 2) := by
    rw [Int.tdiv_eq_ediv_of_nonneg hq0]
    have : p - 1 = 2 * ((p - 1) / 2) := by omega
    generalize (p - 1) / 2 = h at *
    rw [this, show ((i * j : Nat) : Int) * (2 * h) = 2 * (((i * j : Nat) : Int) * h) by grind]
    exact Int.mul_ediv_cancel_left _ (by decide)
  have hh0 : 0 ≤ (p - 1) / 2 := by omega
  have hq2 : 0 ≤ ((i * j : Nat) : Int) * ((p - 1) / 2) := Int.mul_nonneg (by omega) hh0
  have hq3 : ((i * j : Nat) : Int) * ((p - 1) / 2) ≤ 4096 * 5000 := Int.mul_le_mul (by omega) (by omega) hh0 (by omega)
  have w4 : IntKind.wrap .i64 (((i * j : Nat) : Int) * ((p - 1) / 2)) = ((i * j : Nat) : Int) * ((p - 1) / 2) := wrap_id (by omega) (by omega)
  have hpar : Int.tmod (((i * j : Nat) : Int) * ((p - 1) / 2)) 2 = if (decide (i % 2 = 1) && decide (j % 2 = 1) && decide (((p - 1) / 2) % 2 = 1)) = true then 1 else 0 := by
    rw [Int.tmod_eq_emod_of_nonneg hq2, Int.mul_emod, Int.natCast_mul, Int.mul_emod (i : Int) (j : Int)]
    rcases (show (i : Int) % 2 = 0 ∨ (i : Int) % 2 = 1 by omega) with x | x <;> rcases (show (j : Int) % 2 = 0 ∨ (j : Int) % 2 = 1 by omega) with y | y <;> rcases (show ((p - 1) / 2) % 2 = 0 ∨ ((p - 1) / 2) % 2 = 1 by omega) with z | z <;> rw [x, y, z]
    · rw [decide_eq_false (p := i % 2 = 1) (by omega)]; rfl
    · rw [decide_eq_false (p := i % 2 = 1) (by omega)]; rfl
    · rw [decide_eq_false (p := i % 2 = 1) (by omega)]; rfl
    · rw [decide_eq_false (p := i % 2 = 1) (by omega)]; rfl
    · rw [decide_eq_false (p := j % 2 = 1) (by omega)]; simp
    · rw [decide_eq_false (p := j % 2 = 1) (by omega)]; simp
    · simp
    · rw [decide_eq_true (p := i % 2 = 1) (by omega), decide_eq_true (p := j % 2 = 1) (by omega)]; rfl
  have hexp : (if (decide (i % 2 = 1) && decide (j % 2 = 1) && decide (((p - 1) / 2) % 2 = 1)) = true then (1 : Int) else 0) = 0 ∨ (if (decide (i % 2 = 1) && decide (j % 2 = 1) && decide (((p - 1) / 2) % 2 = 1)) = true then (1 : Int) else 0) = 1 := by split <;> simp
  have hn1 : resd (unt a p) p = sg (nb (unt a p) p) := by rw [resd_nb hs.2.1]; unfold sg; split <;> rfl
  have hn2 : resd (unt b p) p = sg (nb (unt b p) p) := by rw [resd_nb ht.2.1]; unfold sg; split <;> rfl
  have hsz : ∀ c : Bool, (sg c).natAbs < 9223372036854775808 := fun c => by cases c <;> decide
  have pw : ∀ (m : Nat) (c : Bool), (if ((m % 2 : Nat) : Int) = 1 then sg c else 1) = sg (decide (m % 2 = 1) && c) := fun m c => by
    rcases (show m % 2 = 0 ∨ m % 2 = 1 by omega) with h | h <;> rw [h]
    · rfl
    · cases c <;> rfl
  have pw0 : (if (if (decide (i % 2 = 1) && decide (j % 2 = 1) && decide (((p - 1) / 2) % 2 = 1)) = true then (1 : Int) else 0) = 1 then (-1 : Int) else 1) = sg (decide (i % 2 = 1) && decide (j % 2 = 1) && decide (((p - 1) / 2) % 2 = 1)) := by
    cases (decide (i % 2 = 1) && decide (j % 2 = 1) && decide (((p - 1) / 2) % 2 = 1)) <;> rfl
  have hm1 : ((i % 2 : Nat) : Int) = 0 ∨ ((i % 2 : Nat) : Int) = 1 := by omega
  have hm2 : ((j % 2 : Nat) : Int) = 0 ∨ ((j % 2 : Nat) : Int) = 1 := by omega
  simp only [f_impl_symbol, show ¬ p = 0 by omega, h2, decide_false, cond_false, cond_true, Bool.not_false, f_impl_split_eq (show 100 ≤ k by omega) hp2 ha.1 (show a.natAbs < 9223372036854775808 by omega), f_impl_split_eq (show 100 ≤ k by omega) hp2 hb.1 (show b.natAbs < 9223372036854775808 by omega), hi, hj, hij, w1, w2, w3, hdiv, w4, hpar,
    f_impl_power_eq (show 2 ≤ k by omega) hexp (show ((-1 : Int)).natAbs < 9223372036854775808 by decide), f_impl_residue_eq hk (show 0 < p by omega) (show p ≤ 10000 by omega), mod2, hn1, hn2, f_impl_power_eq (show 2 ≤ k by omega) hm1 (hsz _), f_impl_power_eq (show 2 ≤ k by omega) hm2 (hsz _), pw, pw0, sg_mul, sg_wrap]
  congr 2
  unfold symb
  rw [if_neg (by omega), if_neg h2, hoi, hoj]
  cases decide (i % 2 = 1) <;> cases decide (j % 2 = 1) <;> cases decide ((p - 1) / 2 % 2 = 1) <;> cases nb (unt a p) p <;> cases nb (unt b p) p <;> rfl

theorem f_impl_symbol_two {R : Type} {k : Nat} (hk : 5100 ≤ k) {a b : Int} (ha : Sm a) (hb : Sm b) (K : Int → Option R) : f_impl_symbol k a b 2 K = K (sg (symb a b 2)) := by
  have hs := val_spec (n := a) (p := 2) (by omega) ha.1 (by have := ha.2; omega)
  have ht := val_spec (n := b) (p := 2) (by omega) hb.1 (by have := hb.2; omega)
  have hA := ha.2
  have hB := hb.2
  have o1 : unt a 2 % 2 = 1 := two_odd.1 hs.2.1
  have o2 : unt b 2 % 2 = 1 := two_odd.1 ht.2.1
  generalize hi : val a 2 = i at *
  generalize hj : val b 2 = j at *
  have hoi : odd a 2 = decide (i % 2 = 1) := by unfold odd; rw [hi]
  have hoj : odd b 2 = decide (j % 2 = 1) := by unfold odd; rw [hj]
  have hi64 := hs.2.2.1
  have hj64 := ht.2.2.1
  have key : ∀ (x y : Int), (x = 1 ∨ x = 3 ∨ x = 5 ∨ x = 7) → (y = 1 ∨ y = 3 ∨ y = 5 ∨ y = 7) → f_impl_power k (-1) (Int.tmod (IntKind.wrap .i64 ((IntKind.wrap .i64 ((IntKind.wrap .i64 ((IntKind.wrap .i64 (Int.tdiv (IntKind.wrap .i64 (x - 1)) 2)) * (IntKind.wrap .i64 (Int.tdiv (IntKind.wrap .i64 (y - 1)) 2)))) + (IntKind.wrap .i64 (Int.tdiv (IntKind.wrap .i64 ((i : Int) * (IntKind.wrap .i64 ((IntKind.wrap .i64 (y * y)) - 1)))) 8)))) + (IntKind.wrap .i64 (Int.tdiv (IntKind.wrap .i64 ((j : Int) * (IntKind.wrap .i64 ((IntKind.wrap .i64 (x * x)) - 1)))) 8)))) 2) (fun r12 => K r12) =
      K (sg ((q4 x && q4 y) ^^ ((decide (i % 2 = 1) && q8 y) ^^ (decide (j % 2 = 1) && q8 x)))) := by
    intro x y hx hy
    have w1 : ∀ z : Int, (z = 1 ∨ z = 3 ∨ z = 5 ∨ z = 7) → IntKind.wrap .i64 (Int.tdiv (IntKind.wrap .i64 (z - 1)) 2) = (z - 1) / 2 := by
      rintro z (rfl | rfl | rfl | rfl) <;> decide
    have w2 : ∀ z : Int, (z = 1 ∨ z = 3 ∨ z = 5 ∨ z = 7) → IntKind.wrap .i64 (IntKind.wrap .i64 (z * z) - 1) = 8 * ((z * z - 1) / 8) := by
      rintro z (rfl | rfl | rfl | rfl) <;> decide
    have w3 : ∀ (m : Nat) (z : Int), m ≤ 64 → (z = 1 ∨ z = 3 ∨ z = 5 ∨ z = 7) → IntKind.wrap .i64 (Int.tdiv (IntKind.wrap .i64 ((m : Int) * (8 * ((z * z - 1) / 8)))) 8) = m * ((z * z - 1) / 8) ∧ 0 ≤ (m : Int) * ((z * z - 1) / 8) ∧ (m : Int) * ((z * z - 1) / 8) ≤ 384 := by
      intro m z hm hz
      have hz' : (z * z - 1) / 8 = 0 ∨ (z * z - 1) / 8 = 1 ∨ (z * z - 1) / 8 = 3 ∨ (z * z - 1) / 8 = 6 := by
        rcases hz with rfl | rfl | rfl | rfl <;> decide
      generalize (z * z - 1) / 8 = q at *
      have b : 0 ≤ (m : Int) * q ∧ (m : Int) * q ≤ 384 := by rcases hz' with rfl | rfl | rfl | rfl <;> omega
      have e : (m : Int) * (8 * q) = 8 * ((m : Int) * q) := by grind
      generalize (m : Int) * q = t at *
      rw [e, wrap_id (n := 8 * t) (by omega) (by omega), Int.tdiv_eq_ediv_of_nonneg (by omega), Int.mul_ediv_cancel_left _ (by decide)]
      exact ⟨wrap_id (by omega) (by omega), b⟩
    rw [w1 x hx, w1 y hy, w2 x hx, w2 y hy, (w3 i y hi64 hy).1, (w3 j x hj64 hx).1]
    have b1 := (w3 i y hi64 hy).2
    have b2 := (w3 j x hj64 hx).2
    have b3 : 0 ≤ (x - 1) / 2 * ((y - 1) / 2) ∧ (x - 1) / 2 * ((y - 1) / 2) ≤ 9 := by rcases hx with rfl | rfl | rfl | rfl <;> rcases hy with rfl | rfl | rfl | rfl <;> decide
    rw [wrap_id (n := (x - 1) / 2 * ((y - 1) / 2)) (by omega) (by omega), wrap_id (n := (x - 1) / 2 * ((y - 1) / 2) + (i : Int) * ((y * y - 1) / 8)) (by omega) (by omega), wrap_id (by omega) (by omega), Int.tmod_eq_emod_of_nonneg (by omega)]
    have par : ∀ m : Nat, ((m : Int) % 2 = 0 ∧ decide (m % 2 = 1) = false) ∨ ((m : Int) % 2 = 1 ∧ decide (m % 2 = 1) = true) := fun m => by
      rcases (show m % 2 = 0 ∨ m % 2 = 1 by omega) with h | h
      · exact .inl ⟨by omega, decide_eq_false (by omega)⟩
      · exact .inr ⟨by omega, decide_eq_true h⟩
    have hpar : ((x - 1) / 2 * ((y - 1) / 2) + (i : Int) * ((y * y - 1) / 8) + (j : Int) * ((x * x - 1) / 8)) % 2 = if ((q4 x && q4 y) ^^ ((decide (i % 2 = 1) && q8 y) ^^ (decide (j % 2 = 1) && q8 x))) = true then 1 else 0 := by
      rw [Int.add_emod, Int.add_emod ((x - 1) / 2 * ((y - 1) / 2)), Int.mul_emod (i : Int), Int.mul_emod (j : Int)]
      rcases par i with ⟨e1, e2⟩ | ⟨e1, e2⟩ <;> rcases par j with ⟨e3, e4⟩ | ⟨e3, e4⟩ <;> rw [e1, e2, e3, e4] <;> rcases hx with rfl | rfl | rfl | rfl <;> rcases hy with rfl | rfl | rfl | rfl <;> decide
    rw [hpar, f_impl_power_eq (show 2 ≤ k by omega) (by split <;> simp) (by decide)]
    congr 1
    cases ((q4 x && q4 y) ^^ ((decide (i % 2 = 1) && q8 y) ^^ (decide (j % 2 = 1) && q8 x))) <;> rfl
  have m1 : unt a 2 % 8 = 1 ∨ unt a 2 % 8 = 3 ∨ unt a 2 % 8 = 5 ∨ unt a 2 % 8 = 7 := by omega
  have m2 : unt b 2 % 8 = 1 ∨ unt b 2 % 8 = 3 ∨ unt b 2 % 8 = 5 ∨ unt b 2 % 8 = 7 := by omega
  simp only [f_impl_symbol, show ¬ (2 : Int) = 0 by omega, decide_false, decide_true, cond_false, Bool.not_true, f_impl_split_eq (show 100 ≤ k by omega) (show (2 : Int) ≤ 2 by omega) ha.1 (show a.natAbs < 9223372036854775808 by omega), f_impl_split_eq (show 100 ≤ k by omega) (show (2 : Int) ≤ 2 by omega) hb.1 (show b.natAbs < 9223372036854775808 by omega), hi, hj,
    f_impl_rest_eq k (show (0 : Int) < 8 by omega) (show (8 : Int) < 4611686018427387904 by omega), key _ _ m1 m2]
  congr 2
  unfold symb
  rw [if_neg (by omega), if_pos rfl, hoi, hoj]
  have r4 : ∀ u : Int, q4 (u % 8) = q4 u := fun u => by unfold q4; congr 1; exact propext ⟨fun h => by omega, fun h => by omega⟩
  have r8 : ∀ u : Int, q8 (u % 8) = q8 u := fun u => by unfold q8; rw [Int.emod_emod_of_dvd u (Int.dvd_refl 8)]
  rw [r4, r4, r8, r8]

theorem f_impl_symbol_eq {R : Type} {k : Nat} (hk : 5100 ≤ k) {a b p : Int} (ha : Sm a) (hb : Sm b) (hp : Plc p) (K : Int → Option R) : f_impl_symbol k a b p K = K (sg (symb a b p)) := by
  rcases hp with rfl | ⟨hp, hp5⟩
  · by_cases h1 : a < 0 <;> by_cases h2 : b < 0 <;> simp [f_impl_symbol, symb, h1, h2, sg]
  · by_cases h2 : p = 2
    · subst h2; exact f_impl_symbol_two hk ha hb K
    · exact f_impl_symbol_odd hk ha hb hp hp5 h2 K

end Go.Proofs.Ytmmadcccjicdcaa.E
