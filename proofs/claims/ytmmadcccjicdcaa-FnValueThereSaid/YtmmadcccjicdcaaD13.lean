/- What is drawn, and the plain laws of FnValueFind and FnValueThere, whole. -/
import Derived.Test.YtmmadcccjicdcaaD11
import Derived.Test.YtmmadcccjicdcaaD12
namespace Go.Proofs.Ytmmadcccjicdcaa.E
set_option linter.unusedVariables false
set_option linter.unusedSimpArgs false
set_option maxRecDepth 100000

def pkx (c : List Int) (p : Nat) : Nat := (c.getD (p % c.length) 0).toNat * 131 + (c.getD ((p * 7 + 3) % c.length) 0).toNat * 1117 + p * 29 + p / c.length * 53
/-- What the reader reads at a place. -/
def pk (c : List Int) (p : Nat) : Nat := if c.length = 0 then 0 else if p < c.length then (c.getD p 0).toNat else pkx c p ^^^ (pkx c p / 64)

theorem tmod_nat (a b : Nat) : Int.tmod (a : Int) (b : Int) = ((a % b : Nat) : Int) := by rw [Int.tmod_eq_emod_of_nonneg (by omega)]; exact (Int.natCast_emod a b).symm
theorem tdiv_nat (a b : Nat) : Int.tdiv (a : Int) (b : Int) = ((a / b : Nat) : Int) := by rw [Int.tdiv_eq_ediv_of_nonneg (by omega)]; exact (Int.natCast_ediv a b).symm

theorem xor_nat {x y : Nat} (hx : x < 18446744073709551616) (hy : y < 18446744073709551616) : ((BitVec.ofInt (IntKind.bits .i64) (x : Int) ^^^ BitVec.ofInt (IntKind.bits .i64) (y : Int)).toNat : Int) = ((x ^^^ y : Nat) : Int) := by
  have h : ∀ {z : Nat}, z < 18446744073709551616 → (BitVec.ofInt (IntKind.bits .i64) (z : Int)).toNat = z := fun {z} hz => by
    rw [BitVec.toNat_ofInt]
    have e : ((2 ^ IntKind.bits .i64 : Nat) : Int) = 18446744073709551616 := by decide
    rw [e]
    omega
  rw [BitVec.toNat_xor, h hx, h hy]

theorem pick_eq {R : Type} (k : Nat) {m : Nat} (hm : 1 ≤ m) (hm' : m ≤ 1000) {c : List Int} (hc : Bytes c) {p : Nat} (hp' : p ≤ 10000000) (K : Int → List Int → Int → Option R) :
    f_spec_l6Rd_pick k (m : Int) c (p : Int) K = K ((pk c p % m : Nat) : Int) c ((p + 1 : Nat) : Int) := by
  have w1 : IntKind.wrap .i64 ((p : Int) + 1) = ((p + 1 : Nat) : Int) := by rw [wrap_id (by omega) (by omega)]; omega
  have w2 : IntKind.wrap .i64 (((p + 1 : Nat) : Int) - 1) = (p : Int) := by rw [wrap_id (by omega) (by omega)]; omega
  have hl := hc.1
  have hm1 : ¬ (m : Int) < 1 := by omega
  have hm0 : ¬ (m : Int) = 0 := by omega
  by_cases h0 : c.length = 0
  · have e : pk c p = 0 := by unfold pk; rw [if_pos h0]
    simp only [f_spec_l6Rd_pick, hm1, show (c.length : Int) = 0 by omega, w1, decide_true, decide_false, cond_true, cond_false, e, Nat.zero_mod]
    rfl
  · by_cases h1 : p < c.length
    · have hb := bytes_getD hc p
      have e : pk c p = (c.getD p 0).toNat := by unfold pk; rw [if_neg h0, if_pos h1]
      have w3 : IntKind.wrap .i64 (c.getD p 0) = c.getD p 0 := wrap_id (by omega) (by omega)
      have e2 : Int.tmod (c.getD p 0) (m : Int) = ((pk c p % m : Nat) : Int) := by
        rw [e, ← tmod_nat, Int.toNat_of_nonneg hb.1]
      simp only [f_spec_l6Rd_pick, hm1, hm0, show ¬ (c.length : Int) = 0 by omega, show (p : Int) < (c.length : Int) by omega, show (0 : Int) ≤ (p : Int) by omega, w1, w2, Int.toNat_natCast, w3, e2, decide_true, decide_false, cond_true, cond_false, Bool.and_self, Bool.not_false]
    · have hL : 0 < c.length := by omega
      have e : pk c p = pkx c p ^^^ (pkx c p / 64) := by unfold pk; rw [if_neg h0, if_neg h1]
      have w4 : IntKind.wrap .i64 ((p : Int) * 7) = ((p * 7 : Nat) : Int) := by rw [wrap_id (by omega) (by omega)]; omega
      have w5 : IntKind.wrap .i64 (((p * 7 : Nat) : Int) + 3) = ((p * 7 + 3 : Nat) : Int) := by rw [wrap_id (by omega) (by omega)]; omega
      have t1 := tmod_nat p c.length
      have t2 := tmod_nat (p * 7 + 3) c.length
      have t3 := tdiv_nat p c.length
      have l1 : p % c.length < c.length := Nat.mod_lt _ hL
      have l2 : (p * 7 + 3) % c.length < c.length := Nat.mod_lt _ hL
      have hb1 := bytes_getD hc (p % c.length)
      have hb2 := bytes_getD hc ((p * 7 + 3) % c.length)
      have hd1 : p / c.length ≤ p := Nat.div_le_self _ _
      have hX : pkx c p = (c.getD (p % c.length) 0).toNat * 131 + (c.getD ((p * 7 + 3) % c.length) 0).toNat * 1117 + p * 29 + p / c.length * 53 := rfl
      have q1 : (decide ((0 : Int) ≤ ((p % c.length : Nat) : Int)) && decide (((p % c.length : Nat) : Int) < (c.length : Int))) = true := by rw [Bool.and_eq_true, decide_eq_true_eq, decide_eq_true_eq]; omega
      have q2 : (decide ((0 : Int) ≤ (((p * 7 + 3) % c.length : Nat) : Int)) && decide ((((p * 7 + 3) % c.length : Nat) : Int) < (c.length : Int))) = true := by rw [Bool.and_eq_true, decide_eq_true_eq, decide_eq_true_eq]; omega
      generalize hA : c.getD (p % c.length) 0 = A at *
      generalize hB : c.getD ((p * 7 + 3) % c.length) 0 = B at *
      generalize hD : p / c.length = D at *
      generalize pkx c p = x at *
      have wA : IntKind.wrap .i64 A = A := wrap_id (by omega) (by omega)
      have wB : IntKind.wrap .i64 B = B := wrap_id (by omega) (by omega)
      have wA2 : IntKind.wrap .i64 (A * 131) = A * 131 := wrap_id (by omega) (by omega)
      have wB2 : IntKind.wrap .i64 (B * 1117) = B * 1117 := wrap_id (by omega) (by omega)
      have wS1 : IntKind.wrap .i64 (A * 131 + B * 1117) = A * 131 + B * 1117 := wrap_id (by omega) (by omega)
      have wP : IntKind.wrap .i64 ((p : Int) * 29) = (p : Int) * 29 := wrap_id (by omega) (by omega)
      have wS2 : IntKind.wrap .i64 (A * 131 + B * 1117 + (p : Int) * 29) = A * 131 + B * 1117 + (p : Int) * 29 := wrap_id (by omega) (by omega)
      have wD : IntKind.wrap .i64 (D : Int) = (D : Int) := wrap_id (by omega) (by omega)
      have wD2 : IntKind.wrap .i64 ((D : Int) * 53) = (D : Int) * 53 := wrap_id (by omega) (by omega)
      have wS3 : IntKind.wrap .i64 (A * 131 + B * 1117 + (p : Int) * 29 + (D : Int) * 53) = (x : Int) := by rw [wrap_id (by omega) (by omega)]; omega
      have hx : x < 4294967296 := by omega
      have hX64 : Int.tdiv (x : Int) 64 = ((x / 64 : Nat) : Int) := tdiv_nat x 64
      have wX : IntKind.wrap .i64 ((x / 64 : Nat) : Int) = ((x / 64 : Nat) : Int) := wrap_id (by omega) (by omega)
      have hxor := xor_nat (x := x) (y := x / 64) (by omega) (by omega)
      have hxl : x ^^^ (x / 64) < 2 ^ 32 := Nat.xor_lt_two_pow (by omega) (by omega)
      have wY : IntKind.wrap .i64 ((x ^^^ (x / 64) : Nat) : Int) = ((x ^^^ (x / 64) : Nat) : Int) := wrap_id (by omega) (by omega)
      have t4 := tmod_nat (x ^^^ (x / 64)) m
      rw [e]
      simp only [f_spec_l6Rd_pick, hm1, hm0, show ¬ (c.length : Int) = 0 by omega, show ¬ (p : Int) < (c.length : Int) by omega, w1, w2, w4, w5, t1, t2, t3, q1, q2, Int.toNat_natCast, hA, hB, wA, wB, wA2, wB2, wS1, wP, wS2, wD, wD2, wS3, hX64, wX, hxor, wY, t4, decide_true, decide_false, cond_true, cond_false, Bool.not_false]

theorem form_one {R : Type} (k : Nat) {c : List Int} (hc : Bytes c) {p : Nat} (hp : p ≤ 9000000) : ∃ T : Int, -30 ≤ T ∧ T ≤ 30 ∧ ∀ (f : Nat) (K0 : List Int → Int → List Int → Option R), l_spec_l91Form_4 k (f + 2) 1 0 c (p : Int) [] K0 = K0 c ((p + 2 : Nat) : Int) [T] := by
  have e1 := fun K => pick_eq (R := R) k (m := 16) (by omega) (by omega) hc (p := p) (by omega) K
  have e2 := fun K => pick_eq (R := R) k (m := 5) (by omega) (by omega) hc (p := p + 1) (by omega) K
  have ht := terms16 (pk c p % 16)
  have l16 : pk c p % 16 < 16 := Nat.mod_lt _ (by decide)
  have hlen : (([1, 2, 3, 5, 6, 7, 1, 10, 12, 3, 15, 4, 21, 1, 30, 8] : List Nat).length : Int) = 16 := rfl
  have q : (decide ((0 : Int) ≤ ((pk c p % 16 : Nat) : Int)) && decide (((pk c p % 16 : Nat) : Int) < 16)) = true := by rw [Bool.and_eq_true, decide_eq_true_eq, decide_eq_true_eq]; omega
  generalize hT : List.getD [1, 2, 3, 5, 6, 7, 1, 10, 12, 3, 15, 4, 21, 1, 30, 8] (pk c p % 16) (0 : Int) = T at *
  have w1 : IntKind.wrap .i64 (0 + 1) = 1 := rfl
  have w2 : IntKind.wrap .i64 (0 - T) = -T := by rw [wrap_id (by omega) (by omega)]; omega
  have hb : Nat.ble (([] : List Int).length + 1) LIM = true := rfl
  by_cases h2 : ((pk c (p + 1) % 5 : Nat) : Int) < 2
  · refine ⟨-T, by omega, by omega, fun f K0 => ?_⟩
    simp only [l_spec_l91Form_4, show (0 : Int) < 1 by decide, show ¬ (1 : Int) < 1 by decide, decide_true, decide_false, cond_true, cond_false, show (16 : Int) = ((16 : Nat) : Int) from rfl, show (5 : Int) = ((5 : Nat) : Int) from rfl, e1, e2] at *
    simp only [hlen, q, cond_true, h2, decide_true, hb, Int.toNat_natCast, hT, w2, w1, decide_false, cond_false, show ¬ (1 : Int) < 1 by decide, List.nil_append]
  · refine ⟨T, by omega, by omega, fun f K0 => ?_⟩
    simp only [l_spec_l91Form_4, show (0 : Int) < 1 by decide, show ¬ (1 : Int) < 1 by decide, decide_true, decide_false, cond_true, cond_false, show (16 : Int) = ((16 : Nat) : Int) from rfl, show (5 : Int) = ((5 : Nat) : Int) from rfl, e1, e2] at *
    simp only [hlen, q, cond_true, h2, decide_true, hb, Int.toNat_natCast, hT, w2, w1, decide_false, cond_false, show ¬ (1 : Int) < 1 by decide, List.nil_append]



theorem l91_one {R : Type} {k : Nat} (hk : 100 ≤ k) {c : List Int} (hc : Bytes c) {p : Nat} (hp : p ≤ 8000000) :
    (pk c (p + 3) % 40 = 1 ∧ ∀ K : List Int → Int → List Int → Option R, f_spec_l91Form k 1 c (p : Int) K = K c ((p + 4 : Nat) : Int) []) ∨
    (pk c (p + 3) % 40 ≠ 1 ∧ ∃ (T : Int) (p' : Nat), -31 ≤ T ∧ T ≤ 31 ∧ p' ≤ p + 5 ∧ ∀ K : List Int → Int → List Int → Option R, f_spec_l91Form k 1 c (p : Int) K = K c (p' : Int) [T]) := by
  have e1 := fun K => pick_eq (R := R) k (m := 1) (by omega) (by omega) hc (p := p) (by omega) K
  obtain ⟨T, t1, t2, e2⟩ := form_one (R := R) k hc (p := p + 1) (by omega)
  have e3 := fun K => pick_eq (R := R) k (m := 40) (by omega) (by omega) hc (p := p + 1 + 2) (by omega) K
  have e4 := fun K => pick_eq (R := R) k (m := 2) (by omega) (by omega) hc (p := p + 1 + 2 + 1) (by omega) K
  obtain ⟨f, hf⟩ : ∃ f, k = f + 2 := ⟨k - 2, by omega⟩
  have e2' := e2 f
  rw [← hf] at e2'
  have m1 : ((pk c p % 1 : Nat) : Int) = 0 := by rw [Nat.mod_one]; rfl
  have w1 : IntKind.wrap .i64 (1 + 0) = 1 := rfl
  simp only [show ((1 : Nat) : Int) = 1 from rfl, show ((40 : Nat) : Int) = 40 from rfl, show ((2 : Nat) : Int) = 2 from rfl] at e1 e3 e4
  rw [show p + 3 = p + 1 + 2 from rfl]
  generalize pk c (p + 1 + 2) % 40 = r at *
  have hl2 : (([0, 31] : List Nat).length : Int) = 2 := rfl
  by_cases h1 : r = 1
  · refine .inl ⟨h1, fun K => ?_⟩
    subst h1
    simp only [f_spec_l91Form, e1, m1, w1, e2', e3, show ¬ (((1 : Nat) : Int) = 0) by omega, decide_false, cond_false, show ((1 : Nat) : Int) = 1 from rfl, decide_true, cond_true, show ¬ ((1 : Int) = 0) by omega]
  · right
    refine ⟨h1, ?_⟩
    by_cases h0 : r = 0
    · subst h0
      have hr : pk c (p + 1 + 2 + 1) % 2 < 2 := Nat.mod_lt _ (by decide)
      have q : (decide ((0 : Int) ≤ ((pk c (p + 1 + 2 + 1) % 2 : Nat) : Int)) && decide (((pk c (p + 1 + 2 + 1) % 2 : Nat) : Int) < 2)) = true := by rw [Bool.and_eq_true, decide_eq_true_eq, decide_eq_true_eq]; omega
      have hv : -31 ≤ List.getD [0, 31] (pk c (p + 1 + 2 + 1) % 2) (0 : Int) ∧ List.getD [0, 31] (pk c (p + 1 + 2 + 1) % 2) (0 : Int) ≤ 31 := by
        rcases (show pk c (p + 1 + 2 + 1) % 2 = 0 ∨ pk c (p + 1 + 2 + 1) % 2 = 1 by omega) with h | h <;> rw [h] <;> decide
      have hs : List.set [T] (Int.toNat 0) (List.getD [0, 31] (pk c (p + 1 + 2 + 1) % 2) (0 : Int)) = [List.getD [0, 31] (pk c (p + 1 + 2 + 1) % 2) (0 : Int)] := rfl
      have q0 : (decide ((0 : Nat) ≤ 0) && decide ((0 : Int) < (([T] : List Int).length : Int))) = true := rfl
      refine ⟨List.getD [0, 31] (pk c (p + 1 + 2 + 1) % 2) (0 : Int), p + 1 + 2 + 1 + 1, hv.1, hv.2, by omega, fun K => ?_⟩
      simp only [f_spec_l91Form, e1, m1, w1, e2', e3, show ((0 : Nat) : Int) = 0 from rfl, decide_true, cond_true, e4, hl2, q, q0, Int.toNat_natCast, hs]
    · refine ⟨T, p + 1 + 2 + 1, by omega, by omega, by omega, fun K => ?_⟩
      simp only [f_spec_l91Form, e1, m1, w1, e2', e3, show ¬ ((r : Int) = 0) by omega, show ¬ ((r : Int) = 1) by omega, decide_false, cond_false]

def MM (L : Nat) : Nat := L * (1 + JJ L)

theorem mm_le {L : Nat} (h : L ≤ 2000) : MM L ≤ 36000 := by
  unfold MM JJ
  by_cases h7 : L = 7
  · rw [if_pos h7, h7]; decide
  · rw [if_neg h7]
    split
    · have : L * (1 + 12) ≤ 2000 * 13 := Nat.mul_le_mul_right _ h
      omega
    · have : L * (1 + 17) ≤ 2000 * 18 := Nat.mul_le_mul_right _ h
      omega

theorem pb_eq (L : Nat) : PB L = 8 * MM L + 100 := by
  unfold PB MM
  rw [Nat.mul_assoc 4]
  omega

theorem div_step (k L j : Nat) (hL : 1 ≤ L) : (k + L * j) / L = k / L + j ∧ (k + L * j) % L = k % L := ⟨by rw [Nat.add_mul_div_left _ _ (by omega)], by rw [Nat.add_mul_mod_self_left]⟩

/-- From each place a term comes soon. -/
theorem soon {c : List Int} (hc : Bytes c) {p : Nat} (hp : p ≤ PB c.length) : ∃ m, m ≤ MM c.length ∧ pk c (p + 4 * m + 3) % 40 ≠ 1 := by
  by_cases h0 : c.length = 0
  · refine ⟨0, by omega, ?_⟩
    unfold pk
    rw [if_pos h0]
    decide
  · have hL : 1 ≤ c.length := by omega
    have hL2 := hc.1
    generalize hLL : c.length = L at *
    have hxb : pkx c (p + 4 * L + 3) ≤ 255 * 1248 + 29 * (PB L + 4 * L + 3) + 53 * ((PB L + 4 * L + 3) / L) := by
      unfold pkx
      rw [hLL]
      have b1 := bytes_getD hc ((p + 4 * L + 3) % L)
      have b2 := bytes_getD hc (((p + 4 * L + 3) * 7 + 3) % L)
      have h1 : (p + 4 * L + 3) / L ≤ (PB L + 4 * L + 3) / L := Nat.div_le_div_right (by omega)
      generalize (p + 4 * L + 3) / L = d1 at *
      generalize (PB L + 4 * L + 3) / L = d2 at *
      omega
    obtain ⟨j, hj, hne⟩ := not_stay hL hL2 hxb
    refine ⟨L + L * j, ?_, ?_⟩
    · unfold MM
      have : L * j ≤ L * JJ L := Nat.mul_le_mul_left _ hj
      rw [Nat.mul_add, Nat.mul_one]
      omega
    · have hk : p + 4 * (L + L * j) + 3 = (p + 4 * L + 3) + L * (4 * j) := by rw [Nat.mul_left_comm L 4 j]; omega
      have hx : pkx c (p + 4 * (L + L * j) + 3) = pkx c (p + 4 * L + 3) + j * (116 * L + 212) := by
        rw [hk]
        unfold pkx
        rw [hLL]
        obtain ⟨s1, s2⟩ := div_step (p + 4 * L + 3) L (4 * j) hL
        have s3 := (div_step ((p + 4 * L + 3) * 7 + 3) L (28 * j) hL).2
        have e7 : ((p + 4 * L + 3) + L * (4 * j)) * 7 + 3 = (p + 4 * L + 3) * 7 + 3 + L * (28 * j) := by
          rw [Nat.mul_left_comm L 4 j, Nat.mul_left_comm L 28 j]; omega
        rw [e7, s1, s2, s3, Nat.mul_add j, Nat.mul_left_comm L 4 j, Nat.mul_left_comm j 116 L, Nat.mul_comm j L]
        generalize L * j = Lj
        omega
      have hge : L ≤ p + 4 * (L + L * j) + 3 := by omega
      unfold pk
      rw [hLL, if_neg h0, if_neg (by omega), hx]
      exact hne

theorem step_run {R : Type} {k : Nat} (hk : 100 ≤ k) {c : List Int} (hc : Bytes c) {v4 : Int} : ∀ (j p : Nat) (out : List Int), 1 ≤ out.length → (out.length : Int) < v4 → out.length ≤ 100 → p + 4 * j ≤ 7000000 → pk c (p + 4 * j + 3) % 40 ≠ 1 →
    ∃ (T : Int) (p' i : Nat), i ≤ j ∧ p' ≤ p + 4 * j + 5 ∧ -31 ≤ T ∧ T ≤ 31 ∧ ∀ (f : Nat) (K0 : List Int → Int → List Int → Option R), l_spec_l92Form_2 k (f + i + 1) v4 c (p : Int) out K0 = l_spec_l92Form_2 k f v4 c (p' : Int) (out ++ [T]) K0 := by
  intro j
  have good : ∀ (p : Nat) (out : List Int), 1 ≤ out.length → (out.length : Int) < v4 → out.length ≤ 100 → p ≤ 7000000 → pk c (p + 3) % 40 ≠ 1 →
    ∃ (T : Int) (p' : Nat), p' ≤ p + 5 ∧ -31 ≤ T ∧ T ≤ 31 ∧ ∀ (f : Nat) (K0 : List Int → Int → List Int → Option R), l_spec_l92Form_2 k (f + 0 + 1) v4 c (p : Int) out K0 = l_spec_l92Form_2 k f v4 c (p' : Int) (out ++ [T]) K0 := by
    intro p out h1 h2 h3 hp hne
    rcases l91_one (R := R) hk hc (p := p) (by omega) with ⟨h, _⟩ | ⟨_, T, p', t1, t2, t3, e⟩
    · exact absurd h hne
    · refine ⟨T, p', t3, t1, t2, fun f K0 => ?_⟩
      simp only [Nat.add_zero, l_spec_l92Form_2, h2, show (0 : Int) < (out.length : Int) by omega, decide_true, cond_true, e, List.length_singleton, ble_lim (show out.length + 1 ≤ 4294967296 by omega)]
  induction j with
  | zero =>
    intro p out h1 h2 h3 hp hne
    obtain ⟨T, p', g1, g2, g3, g4⟩ := good p out h1 h2 h3 (by omega) (by simpa using hne)
    exact ⟨T, p', 0, Nat.le_refl _, by omega, g2, g3, g4⟩
  | succ j ih =>
    intro p out h1 h2 h3 hp hne
    by_cases h : pk c (p + 3) % 40 = 1
    · rcases l91_one (R := R) hk hc (p := p) (by omega) with ⟨_, e⟩ | ⟨h', _⟩
      · obtain ⟨T, p', i, g0, g1, g2, g3, g4⟩ := ih (p + 4) out h1 h2 h3 (by omega) (by rw [show p + 4 + 4 * j + 3 = p + 4 * (j + 1) + 3 by omega]; exact hne)
        refine ⟨T, p', i + 1, by omega, by omega, g2, g3, fun f K0 => ?_⟩
        rw [← g4 f K0]
        simp only [show f + (i + 1) + 1 = (f + i + 1) + 1 by omega, l_spec_l92Form_2, h2, show (0 : Int) < (out.length : Int) by omega, decide_true, cond_true, e, List.length_nil, ble_lim (show out.length + 0 ≤ 4294967296 by omega), List.append_nil]
        rfl
      · exact absurd h h'
    · obtain ⟨T, p', g1, g2, g3, g4⟩ := good p out h1 h2 h3 (by omega) h
      exact ⟨T, p', 0, by omega, by omega, g2, g3, g4⟩

theorem grow {R : Type} {k : Nat} (hk : 100 ≤ k) {c : List Int} (hc : Bytes c) {v4 : Int} (h4 : v4 ≤ 4) : ∀ (r p : Nat) (out : List Int), (out.length : Int) + r = v4 → 1 ≤ out.length → Lt31 out → (1 ≤ r → p + (r - 1) * (4 * MM c.length + 5) ≤ 8 * MM c.length + 100) →
    ∃ (p' i : Nat) (out' : List Int), i ≤ r * (MM c.length + 1) ∧ p' ≤ p + r * (4 * MM c.length + 5) ∧ out'.length ≤ 4 ∧ Lt31 out' ∧ ∀ (f : Nat) (K0 : List Int → Int → List Int → Option R), l_spec_l92Form_2 k (f + i + 1) v4 c (p : Int) out K0 = K0 c (p' : Int) out'
  | 0, p, out, hr, h1, hs, hp => by
    refine ⟨p, 0, out, by omega, by omega, by omega, hs, fun f K0 => ?_⟩
    simp only [Nat.add_zero, l_spec_l92Form_2, show ¬ (out.length : Int) < v4 by omega, decide_false, cond_false]
  | r + 1, p, out, hr, h1, hs, hp => by
    have hM := mm_le hc.1
    have hpb := pb_eq c.length
    have hmul : (r + 1) * (4 * MM c.length + 5) = r * (4 * MM c.length + 5) + (4 * MM c.length + 5) := Nat.succ_mul _ _
    have hmul2 : (r + 1) * (MM c.length + 1) = r * (MM c.length + 1) + (MM c.length + 1) := Nat.succ_mul _ _
    have hp := hp (by omega)
    obtain ⟨m, hm, hne⟩ := soon hc (p := p) (by rw [hpb]; omega)
    have hp' : p ≤ 8 * MM c.length + 100 := by omega
    obtain ⟨T, p1, i1, a1, a2, a3, a4, a5⟩ := step_run (R := R) hk hc (v4 := v4) m p out h1 (by omega) (by omega) (by omega) hne
    obtain ⟨p2, i2, out', b1, b2, b3, b4, b5⟩ := grow (R := R) hk hc h4 r p1 (out ++ [T]) (by simp; omega) (by simp) (fun x hx => by
      rcases List.mem_append.1 hx with h | h
      · exact hs x h
      · simp at h; omega) (fun hr1 => by
        cases r with
        | zero => omega
        | succ r' =>
          have e : (r' + 1) * (4 * MM c.length + 5) = r' * (4 * MM c.length + 5) + (4 * MM c.length + 5) := Nat.succ_mul _ _
          simp only [Nat.add_sub_cancel] at hp ⊢
          omega)
    refine ⟨p2, i1 + i2 + 1, out', by omega, by omega, b3, b4, fun f K0 => ?_⟩
    rw [← b5 f K0, ← a5 (f + i2 + 1) K0]
    congr 1
    omega

/-- Forms that are drawn. -/
theorem l92Form_draw {R : Type} {k : Nat} (hk : 200000 ≤ k) {c : List Int} (hc : Bytes c) {n : Int} (hn : 1 ≤ n) (hn4 : n ≤ 4) {p : Nat} (hp : p ≤ 20) :
    ∃ (l : List Int) (p' : Int), Lt31 l ∧ l.length ≤ 4 ∧ 0 ≤ p' ∧ p' ≤ 900000 ∧ ∀ K : List Int → List Int → Int → Option R, f_spec_l92Form k n c (p : Int) K = K l c p' := by
  have hM := mm_le hc.1
  -- the terms
  have hloop : ∃ (l : List Int) (p1 : Nat), Lt31 l ∧ l.length ≤ 4 ∧ p1 ≤ 800000 ∧ ∀ K0 : List Int → Int → List Int → Option R, f_spec_l91Form k 1 c (p : Int) (fun r1 r2 r3 => l_spec_l92Form_2 k k n r1 r2 r3 K0) = K0 c (p1 : Int) l := by
    rcases l91_one (R := R) (k := k) (by omega) hc (p := p) (by omega) with ⟨_, e⟩ | ⟨_, T, p0, t1, t2, t3, e⟩
    · obtain ⟨f, hf⟩ : ∃ f, k = f + 1 := ⟨k - 1, by omega⟩
      refine ⟨[], p + 4, (fun x hx => by cases hx), by simp, by omega, fun K0 => ?_⟩
      rw [e]
      have : l_spec_l92Form_2 k (f + 1) n c ((p + 4 : Nat) : Int) [] K0 = K0 c ((p + 4 : Nat) : Int) [] := by
        simp only [l_spec_l92Form_2, List.length_nil, show ((0 : Nat) : Int) < n by omega, decide_true, cond_true, show ¬ ((0 : Int) < ((0 : Nat) : Int)) by omega, decide_false, cond_false]
      rw [← hf] at this
      exact this
    · obtain ⟨r, hr⟩ : ∃ r : Nat, (1 : Int) + r = n := ⟨(n - 1).toNat, by omega⟩
      have hr3 : r ≤ 3 := by omega
      obtain ⟨p1, i, out', b1, b2, b3, b4, b5⟩ := grow (R := R) (k := k) (by omega) hc (v4 := n) hn4 r p0 [T] (by simpa using hr) (by simp) (fun x hx => by simp at hx; omega) (fun _ => by
        have : (r - 1) * (4 * MM c.length + 5) ≤ 2 * (4 * MM c.length + 5) := Nat.mul_le_mul_right _ (by omega)
        omega)
      have c1 : r * (MM c.length + 1) ≤ 3 * (MM c.length + 1) := Nat.mul_le_mul_right _ hr3
      have c2 : r * (4 * MM c.length + 5) ≤ 3 * (4 * MM c.length + 5) := Nat.mul_le_mul_right _ hr3
      obtain ⟨f, hf⟩ : ∃ f, k = f + i + 1 := ⟨k - i - 1, by omega⟩
      refine ⟨out', p1, b4, b3, by omega, fun K0 => ?_⟩
      rw [e]
      have := b5 f K0
      rw [← hf] at this
      exact this
  obtain ⟨l, p1, hs, hl, hp1, hform⟩ := hloop
  have e1 := fun K => pick_eq (R := R) k (m := 2) (by omega) (by omega) hc (p := p1) (by omega) K
  have e2 := fun K => pick_eq (R := R) k (m := 2) (by omega) (by omega) hc (p := p1 + 1) (by omega) K
  simp only [show ((2 : Nat) : Int) = 2 from rfl] at e1 e2
  by_cases h3 : (l.length : Int) = 3
  · by_cases hz : ((pk c p1 % 2 : Nat) : Int) = 0
    · by_cases hv : validL l = true
      · match l, h3 with
        | [a, b, d], _ =>
          have ha := hs a (by simp)
          have hb := hs b (by simp)
          have hr : pk c (p1 + 1) % 2 < 2 := Nat.mod_lt _ (by decide)
          generalize hrr : pk c (p1 + 1) % 2 = r at *
          have w1 : IntKind.wrap .i64 (1 + (r : Int)) = 1 + (r : Int) := wrap_id (by omega) (by omega)
          have hm : (a * (1 + (r : Int))).natAbs ≤ 31 * 2 := (by rw [Int.natAbs_mul]; exact Nat.mul_le_mul (show a.natAbs ≤ 31 by omega) (show (1 + (r : Int)).natAbs ≤ 2 by omega))
          have w2 : IntKind.wrap .i64 (a * (1 + (r : Int))) = a * (1 + (r : Int)) := wrap_id (by omega) (by omega)
          have w3 : IntKind.wrap .i64 (0 - a * (1 + (r : Int))) = 0 - a * (1 + (r : Int)) := wrap_id (by omega) (by omega)
          have w4 : IntKind.wrap .i64 (0 - a * (1 + (r : Int)) - b) = 0 - a * (1 + (r : Int)) - b := wrap_id (by omega) (by omega)
          generalize ht : 0 - a * (1 + (r : Int)) - b = t at *
          have hfv : ∀ K : Bool → Option R, f_spec_FormValid k [a, b, d] K = K true := fun K => by rw [f_spec_FormValid_eq (by simp; omega) (by simp), hv]
          have hst : ∀ K : Int → Option R, f_spec_l1Size k t K = K (t.natAbs : Nat) := fun K => by
            have w : IntKind.wrap .i64 (0 - t) = -t := by rw [wrap_id (by omega) (by omega)]; omega
            simp only [f_spec_l1Size, w]
            by_cases hn : t < -t
            · simp only [hn, decide_true, cond_true]; congr 1; omega
            · simp only [hn, decide_false, cond_false]; congr 1; omega
          have L : ((([a, b, d] : List Int).length : Nat) : Int) = 3 := rfl
          have q0 : (decide ((0 : Nat) ≤ 0) && decide ((0 : Int) < 3)) = true := rfl
          have q1 : (decide ((0 : Nat) ≤ 1) && decide ((1 : Int) < 3)) = true := rfl
          have q2 : (decide ((0 : Nat) ≤ 2) && decide ((2 : Int) < 3)) = true := rfl
          have v0 : List.getD [a, b, d] (Int.toNat 0) 0 = a := rfl
          have v1 : List.getD [a, b, d] (Int.toNat 1) 0 = b := rfl
          have v2 : ∀ t : Int, List.set [a, b, d] (Int.toNat 2) t = [a, b, t] := fun _ => rfl
          by_cases ht0 : t = 0
          · refine ⟨[a, b, d], ((p1 + 1 + 1 : Nat) : Int), hs, by simp, by omega, by omega, fun K => ?_⟩
            simp only [f_spec_l92Form, hform, L, q0, q1, q2, v0, v1, e1, hz, hfv, e2, w1, w2, w3, ht, ht0, show IntKind.wrap .i64 0 = 0 from rfl, decide_true, cond_true, Bool.not_true, cond_false]
          · by_cases ht30 : ((t.natAbs : Nat) : Int) ≤ 30
            · refine ⟨[a, b, t], ((p1 + 1 + 1 : Nat) : Int), (fun x hx => ?_), by simp, by omega, by omega, fun K => ?_⟩
              · simp only [List.mem_cons, List.not_mem_nil, or_false] at hx
                rcases hx with rfl | rfl | rfl
                · exact ha
                · exact hb
                · omega
              · simp only [f_spec_l92Form, hform, L, q0, q1, q2, v0, v1, v2, e1, hz, hfv, e2, w1, w2, w3, ht, w4, ht0, hst, ht30, decide_true, decide_false, cond_true, Bool.not_false, cond_false]
            · refine ⟨[a, b, d], ((p1 + 1 + 1 : Nat) : Int), hs, by simp, by omega, by omega, fun K => ?_⟩
              simp only [f_spec_l92Form, hform, L, q0, q1, q2, v0, v1, v2, e1, hz, hfv, e2, w1, w2, w3, ht, w4, ht0, hst, ht30, decide_true, decide_false, cond_true, Bool.not_false, cond_false]
      · have hv' : validL l = false := by cases h : validL l with | false => rfl | true => exact absurd h hv
        have hfv : ∀ K : Bool → Option R, f_spec_FormValid k l K = K false := fun K => by rw [f_spec_FormValid_eq (by omega) (by omega), hv']
        refine ⟨l, ((p1 + 1 : Nat) : Int), hs, hl, by omega, by omega, fun K => ?_⟩
        simp only [f_spec_l92Form, hform, h3, decide_true, cond_true, e1, hz, hfv, cond_false]
    · refine ⟨l, ((p1 + 1 : Nat) : Int), hs, hl, by omega, by omega, fun K => ?_⟩
      simp only [f_spec_l92Form, hform, h3, decide_true, cond_true, e1, hz, decide_false, cond_false]
  · refine ⟨l, (p1 : Int), hs, hl, by omega, by omega, fun K => ?_⟩
    simp only [f_spec_l92Form, hform, h3, decide_false, cond_false]

theorem l92Target_draw {R : Type} (k : Nat) {c : List Int} (hc : Bytes c) {p : Int} (hp : 0 ≤ p) (hp' : p ≤ 900000) :
    ∃ (t p' : Int), ∀ K : Int → List Int → Int → Option R, f_spec_l92Target k c p K = K t c p' := by
  obtain ⟨r1, a1, b1, e1⟩ := f_spec_l6Rd_pick_pick (R := R) k (m := 20) (by omega) (by omega) hc (p := p) hp (by omega)
  obtain ⟨r2, a2, b2, e2⟩ := f_spec_l6Rd_pick_pick (R := R) k (m := 4) (by omega) (by omega) hc (p := p + 1) (by omega) (by omega)
  obtain ⟨r3, a3, b3, e3⟩ := f_spec_l6Rd_pick_pick (R := R) k (m := 20) (by omega) (by omega) hc (p := p + 1) (by omega) (by omega)
  obtain ⟨r4, a4, b4, e4⟩ := f_spec_l6Rd_pick_pick (R := R) k (m := 4) (by omega) (by omega) hc (p := p + 1 + 1) (by omega) (by omega)
  by_cases h1 : r1 = 0
  · have hl4 : (([0, 31, -31, 30] : List Int).length : Int) = 4 := rfl
    refine ⟨List.getD [0, 31, -31, 30] (Int.toNat r2) 0, p + 1 + 1, fun K => ?_⟩
    · simp only [f_spec_l92Target, e1, h1, decide_true, cond_true, e2, hl4, a2, b2, Bool.and_self]
  · by_cases h4 : r4 = 0
    · refine ⟨IntKind.wrap .i64 (0 - (IntKind.wrap .i64 (1 + r3))), p + 1 + 1 + 1, fun K => ?_⟩
      · simp only [f_spec_l92Target, e1, h1, decide_false, cond_false, e3, e4, h4, decide_true, cond_true]
    · refine ⟨IntKind.wrap .i64 (1 + r3), p + 1 + 1 + 1, fun K => ?_⟩
      · simp only [f_spec_l92Target, e1, h1, decide_false, cond_false, e3, e4, h4]

theorem DrawValueFind_draw {R : Type} {k : Nat} (hk : 200000 ≤ k) {xs : List Int} (h : ∀ x ∈ xs, 0 ≤ x ∧ x ≤ 255) : ∃ (l : List Int) (t : Int), Lt31 l ∧ l.length ≤ 4 ∧ ∀ K : List Int → Int → Option R, f_spec_DrawValueFind k xs K = K l t := by
  obtain ⟨c, hc, h0⟩ := f_spec_l6Open_open (R := R) k h
  have e1 := fun K => pick_eq (R := R) k (m := 3) (by omega) (by omega) hc (p := 0) (by omega) K
  have e2 := fun K => pick_eq (R := R) k (m := 16) (by omega) (by omega) hc (p := 1) (by omega) K
  have r1 : pk c 0 % 3 < 3 := Nat.mod_lt _ (by decide)
  have r2 : pk c 1 % 16 < 16 := Nat.mod_lt _ (by decide)
  generalize pk c 0 % 3 = a at *
  generalize pk c 1 % 16 = b at *
  have w1 : IntKind.wrap .i64 (1 + (a : Int)) = 1 + (a : Int) := wrap_id (by omega) (by omega)
  have hb : Int.tdiv (b : Int) 15 = ((b / 15 : Nat) : Int) := tdiv_nat b 15
  have w2 : IntKind.wrap .i64 ((b / 15 : Nat) : Int) = ((b / 15 : Nat) : Int) := wrap_id (by omega) (by omega)
  have w3 : IntKind.wrap .i64 (1 + (a : Int) + ((b / 15 : Nat) : Int)) = 1 + (a : Int) + ((b / 15 : Nat) : Int) := wrap_id (by omega) (by omega)
  obtain ⟨l, p', g1, g2, g3, g4, g5⟩ := l92Form_draw (R := R) hk hc (n := 1 + (a : Int) + ((b / 15 : Nat) : Int)) (by omega) (by omega) (p := 2) (by omega)
  obtain ⟨t, p'', g6⟩ := l92Target_draw (R := R) k hc (p := p') g3 g4
  simp only [show ((3 : Nat) : Int) = 3 from rfl, show ((16 : Nat) : Int) = 16 from rfl, show ((0 : Nat) : Int) = 0 from rfl, show ((0 + 1 : Nat) : Int) = 1 from rfl, show ((1 : Nat) : Int) = 1 from rfl, show ((1 + 1 : Nat) : Int) = 2 from rfl, show ((2 : Nat) : Int) = 2 from rfl] at e1 e2 g5
  exact ⟨l, t, g1, g2, fun K => by simp only [f_spec_DrawValueFind, h0, e1, e2, w1, hb, w2, w3, g5, g6]⟩



theorem pureFnValueFind (xs : List Int) (h : ∀ x ∈ xs, (Lit.int .u8 x).wf = true) : ∃ F : CF R0, Good tyE.P 6 false F ∧ F [.sl true 5 (.int .u8) xs] [] (fun r o => some (r, o)) = some ([.bool true], []) := by
  refine ⟨F_laws_FnValueFind 200000, good_laws_FnValueFind 200000, ?_⟩
  have e : F_laws_FnValueFind (R := R0) 200000 [.sl true 5 (.int .u8) xs] [] (fun r o => some (r, o)) = g_laws_FnValueFind 200000 (xs, ()) () (fun r o => some (r, o)) := wrapF_eq (by kernel_rfl) (by kernel_rfl)
  rw [e]
  obtain ⟨l, t, h1, h2, h3⟩ := DrawValueFind_draw (R := R0) (k := 200000) (Nat.le_refl _) fun x hx => wf_byte (h x hx)
  exact laws_FnValueFind_of (by decide) xs h1 h2 h3

theorem pureFnValueThere (xs : List Int) (h : ∀ x ∈ xs, (Lit.int .u8 x).wf = true) : ∃ F : CF R0, Good tyE.P 7 false F ∧ F [.sl true 5 (.int .u8) xs] [] (fun r o => some (r, o)) = some ([.bool true], []) := by
  refine ⟨F_laws_FnValueThere 200000, good_laws_FnValueThere 200000, ?_⟩
  have e : F_laws_FnValueThere (R := R0) 200000 [.sl true 5 (.int .u8) xs] [] (fun r o => some (r, o)) = g_laws_FnValueThere 200000 (xs, ()) () (fun r o => some (r, o)) := wrapF_eq (by kernel_rfl) (by kernel_rfl)
  rw [e]
  obtain ⟨l, t, h1, h2, h3⟩ := DrawValueFind_draw (R := R0) (k := 200000) (Nat.le_refl _) fun x hx => wf_byte (h x hx)
  exact laws_FnValueThere_of (by decide) xs h1 h2 h3

end Go.Proofs.Ytmmadcccjicdcaa.E
