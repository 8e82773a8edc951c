/- Zeros of forms: the program's and the reference's. -/
import Derived.Test.YtmmadcccjicdcaaD6
namespace Go.Proofs.Ytmmadcccjicdcaa.E
set_option linter.unusedVariables false
set_option linter.unusedSimpArgs false
set_option maxRecDepth 100000

def ans4 {R : Type} (o : Option (List Int)) (K0 : List Int → Bool → Option R) (N : Option R) : Option R := match o with | some v => K0 v true | none => N

def ZF (l : List Int) (o : Option (List Int)) : Prop := ∀ v, o = some v → v.length = l.length ∧ qf l v = 0 ∧ gcdL v ≠ 0 ∧ ∀ x ∈ v, x.natAbs ≤ 10000000000000

theorem pair_ex {R : Type} {k : Nat} (hk : 60000 ≤ k) {a b c d x y : Int} (ha : a ≠ 0 ∧ a.natAbs ≤ 30) (hb : b ≠ 0 ∧ b.natAbs ≤ 30) (hc : c ≠ 0 ∧ c.natAbs ≤ 30) (hd : d ≠ 0 ∧ d.natAbs ≤ 30) (hx : 0 ≤ x ∧ x ≤ 3) (hy : 0 ≤ y ∧ y ≤ 3) (hxy : x ≠ 0 ∨ y ≠ 0) :
    ∃ o : Option (List Int), ZF [a, b, c, d] o ∧
      (∀ (K0 : List Int → Bool → Option R) (N : Option R), cond (decide ((a * x * x + b * y * y) = 0)) (f_impl_plain k [x, y, 0, 0] (fun r12 => K0 r12 true)) (f_impl_coreOf k (a * x * x + b * y * y) (fun r13 r14 => f_impl_ZeroFinda k [c, d, r13] (fun r15 r16 => cond (r16) (cond (decide (0 ≤ 2) && decide (2 < ((r15).length : Int))) (cond (decide (0 ≤ 2) && decide (2 < ((r15).length : Int))) (cond (decide (0 ≤ 0) && decide (0 < ((r15).length : Int))) (cond (decide (0 ≤ 1) && decide (1 < ((r15).length : Int))) (f_impl_plain k [(IntKind.wrap .i64 (x * (List.getD r15 (Int.toNat 2) 0))), (IntKind.wrap .i64 (y * (List.getD r15 (Int.toNat 2) 0))), (IntKind.wrap .i64 (r14 * (List.getD r15 (Int.toNat 0) 0))), (IntKind.wrap .i64 (r14 * (List.getD r15 (Int.toNat 1) 0)))] (fun r17 => K0 r17 true)) none) none) none) none) N))) = ans4 o K0 N) ∧
      (∀ (K0 : List Int → Bool → Option R) (N : Option R), cond (decide ((a * x * x + b * y * y) = 0)) (f_spec_l5Plain k [x, y, 0, 0] (fun r6 => K0 r6 true)) (f_spec_l1Core k (a * x * x + b * y * y) (fun r7 r8 => f_spec_l1Size k r7 (fun r9 => cond (decide (30 < r9)) N (f_spec_l5Three k [c, d, r7] (fun r10 r11 => cond (r11) (cond (decide (0 ≤ 2) && decide (2 < ((r10).length : Int))) (cond (decide (0 ≤ 2) && decide (2 < ((r10).length : Int))) (cond (decide (0 ≤ 0) && decide (0 < ((r10).length : Int))) (cond (decide (0 ≤ 1) && decide (1 < ((r10).length : Int))) (f_spec_l5Plain k [(IntKind.wrap .i64 (x * (List.getD r10 (Int.toNat 2) 0))), (IntKind.wrap .i64 (y * (List.getD r10 (Int.toNat 2) 0))), (IntKind.wrap .i64 (r8 * (List.getD r10 (Int.toNat 0) 0))), (IntKind.wrap .i64 (r8 * (List.getD r10 (Int.toNat 1) 0)))] (fun r12 => K0 r12 true)) none) none) none) none) N))))) = ans4 o K0 N) := by
  have a2 : (a * x * x).natAbs ≤ 30 * 3 * 3 := mul_abs (mul_abs ha.2 (by omega)) (by omega)
  have b2 : (b * y * y).natAbs ≤ 30 * 3 * 3 := mul_abs (mul_abs hb.2 (by omega)) (by omega)
  by_cases ht : a * x * x + b * y * y = 0
  · have hg : gcdL [x, y, 0, 0] ≠ 0 := by
      rcases hxy with h | h
      · exact gcd_ne.2 ⟨x, by simp, h⟩
      · exact gcd_ne.2 ⟨y, by simp, h⟩
    have hall : ∀ t ∈ [x, y, 0, 0], t.natAbs ≤ 10000000000000 := fun t ht => by
      simp only [List.mem_cons, List.not_mem_nil, or_false] at ht
      rcases ht with rfl | rfl | rfl | rfl <;> omega
    have hsz : Sz [x, y, 0, 0] := fun t ht => by have := hall t ht; omega
    have hqf : qf [a, b, c, d] [x, y, 0, 0] = 0 := by simp only [qf]; omega
    refine ⟨some (plainL [x, y, 0, 0]), (fun v h => by cases h; exact ⟨by rw [plain_len]; rfl, plain_qf hg hqf, plain_gcd hg, plain_abs hall⟩), fun K0 N => ?_, fun K0 N => ?_⟩
    · simp only [ht, decide_true, cond_true, f_impl_plain_eq (show 1000 ≤ k by omega) hsz (by simp) hg, ans4]
    · simp only [ht, decide_true, cond_true, f_spec_l5Plain_eq (show 1000 ≤ k by omega) hsz (by simp) hg, ans4]
  · generalize hT : a * x * x + b * y * y = t at *
    have htn : t.natAbs ≤ 540 := by omega
    have hcore := cor_spec ht
    have hle := rt_le ht
    have hrp := hcore.pos
    have hr23 : rt t ≤ 23 := by
      rcases Int.lt_or_le 23 (rt t) with h | h
      · have : 24 * 24 ≤ rt t * rt t := sq_le (by omega) (by omega)
        omega
      · exact h
    by_cases hbig : 30 < (cor t).natAbs
    · have hv : validL [c, d, cor t] = false := by
        cases hv : validL [c, d, cor t] with
        | false => rfl
        | true => have := (valid_iff.1 hv).t (cor t) (by simp); omega
      have hfv : ∀ K : Bool → Option R, f_impl_FormValid k [c, d, cor t] K = K false := fun K => by rw [f_impl_FormValid_eq (fun x hx => by simp at hx; omega) (by simp; omega) (by simp), hv]
      refine ⟨none, (fun v h => by cases h), fun K0 N => ?_, fun K0 N => ?_⟩
      · simp only [ht, decide_false, cond_false, f_impl_coreOf_eq hk ht (show t.natAbs ≤ 25000000 by omega), f_impl_ZeroFinda, hfv, Bool.not_false, cond_true, ans4]
      · simp only [ht, decide_false, cond_false, f_spec_l1Core_eq hk ht (show t.natAbs ≤ 25000000 by omega), f_spec_l1Size_eq k (show (cor t).natAbs < 9223372036854775808 by omega), show (30 : Int) < ((cor t).natAbs : Nat) by omega, decide_true, cond_true, ans4]
    · obtain ⟨o, h1, _, _, h4, h5⟩ := three_ex (R := R) hk (a := c) (b := d) (c := cor t) ⟨hc, hd, hcore.sqf.ne, by omega⟩
      cases o with
      | none =>
        refine ⟨none, (fun v h => by cases h), fun K0 N => ?_, fun K0 N => ?_⟩
        · simp only [ht, decide_false, cond_false, f_impl_coreOf_eq hk ht (show t.natAbs ≤ 25000000 by omega), h4, ans, ans4]
        · simp only [ht, decide_false, cond_false, f_spec_l1Core_eq hk ht (show t.natAbs ≤ 25000000 by omega), f_spec_l1Size_eq k (show (cor t).natAbs < 9223372036854775808 by omega), show ¬ (30 : Int) < ((cor t).natAbs : Nat) by omega, h5, ans, ans4]
      | some v =>
        obtain ⟨hl, hq, hg, hs⟩ := h1 v rfl
        match v, hl, hq, hg, hs with
        | [v0, v1, v2], _, hq, hg, hs =>
          have s0 := hs v0 (by simp)
          have s1 := hs v1 (by simp)
          have s2 := hs v2 (by simp)
          have m1 : (x * v2).natAbs ≤ 3 * 67500000000 := mul_abs (by omega) s2
          have m2 : (y * v2).natAbs ≤ 3 * 67500000000 := mul_abs (by omega) s2
          have m3 : (rt t * v0).natAbs ≤ 23 * 67500000000 := mul_abs (by omega) s0
          have m4 : (rt t * v1).natAbs ≤ 23 * 67500000000 := mul_abs (by omega) s1
          have hall : ∀ z ∈ [x * v2, y * v2, rt t * v0, rt t * v1], z.natAbs ≤ 10000000000000 := fun z hz => by
            simp only [List.mem_cons, List.not_mem_nil, or_false] at hz
            rcases hz with rfl | rfl | rfl | rfl <;> omega
          have hsz : Sz [x * v2, y * v2, rt t * v0, rt t * v1] := fun t ht => by have := hall t ht; omega
          have hgg : gcdL [x * v2, y * v2, rt t * v0, rt t * v1] ≠ 0 := by
            obtain ⟨z, hz, hz0⟩ := gcd_ne.1 hg
            simp only [List.mem_cons, List.not_mem_nil, or_false] at hz
            rcases hz with rfl | rfl | rfl
            · exact gcd_ne.2 ⟨rt t * z, by simp, Int.mul_ne_zero (by omega) hz0⟩
            · exact gcd_ne.2 ⟨rt t * z, by simp, Int.mul_ne_zero (by omega) hz0⟩
            · rcases hxy with h | h
              · exact gcd_ne.2 ⟨x * z, by simp, Int.mul_ne_zero h hz0⟩
              · exact gcd_ne.2 ⟨y * z, by simp, Int.mul_ne_zero h hz0⟩
          have hqf : qf [a, b, c, d] [x * v2, y * v2, rt t * v0, rt t * v1] = 0 := by
            simp only [qf] at hq ⊢
            have e1 := hcore.eq
            generalize rt t = r at *
            generalize cor t = m at *
            have e2 : a * (x * v2) * (x * v2) + (b * (y * v2) * (y * v2) + (c * (r * v0) * (r * v0) + (d * (r * v1) * (r * v1) + 0))) = (a * x * x + b * y * y) * (v2 * v2) + r * r * (c * v0 * v0 + d * v1 * v1) := by clear hs; grind
            rw [e2, hT, e1]
            have e3 : m * (r * r) * (v2 * v2) + r * r * (c * v0 * v0 + d * v1 * v1) = r * r * (c * v0 * v0 + (d * v1 * v1 + (m * v2 * v2 + 0))) := by clear hs; grind
            rw [e3, hq, Int.mul_zero]
          have w1 : IntKind.wrap .i64 (x * v2) = x * v2 := wrap_abs (by omega)
          have w2 : IntKind.wrap .i64 (y * v2) = y * v2 := wrap_abs (by omega)
          have w3 : IntKind.wrap .i64 (rt t * v0) = rt t * v0 := wrap_abs (by omega)
          have w4 : IntKind.wrap .i64 (rt t * v1) = rt t * v1 := wrap_abs (by omega)
          refine ⟨some (plainL [x * v2, y * v2, rt t * v0, rt t * v1]), (fun v h => by cases h; exact ⟨by rw [plain_len]; rfl, plain_qf hgg hqf, plain_gcd hgg, plain_abs hall⟩), fun K0 N => ?_, fun K0 N => ?_⟩
          · simp [ht, f_impl_coreOf_eq hk ht (show t.natAbs ≤ 25000000 by omega), h4, ans, ans4, w1, w2, w3, w4, f_impl_plain_eq (show 1000 ≤ k by omega) hsz (by simp) hgg]
          · simp [ht, f_spec_l1Core_eq hk ht (show t.natAbs ≤ 25000000 by omega), f_spec_l1Size_eq k (show (cor t).natAbs < 9223372036854775808 by omega), show ¬ (30 : Int) < ((cor t).natAbs : Nat) by omega, h5, ans, ans4, w1, w2, w3, w4, f_spec_l5Plain_eq (show 1000 ≤ k by omega) hsz (by simp) hgg]

theorem four_y {R : Type} {k : Nat} (hk : 60000 ≤ k) {a b c d x : Int} (ha : a ≠ 0 ∧ a.natAbs ≤ 30) (hb : b ≠ 0 ∧ b.natAbs ≤ 30) (hc : c ≠ 0 ∧ c.natAbs ≤ 30) (hd : d ≠ 0 ∧ d.natAbs ≤ 30) (hx : 0 ≤ x ∧ x ≤ 3) : ∀ (j : Nat) (y : Int), 0 ≤ y → y + j = 4 →
    ∃ o : Option (List Int), ZF [a, b, c, d] o ∧
      (∀ fuel, j < fuel → ∀ (K0 : List Int → Bool → Option R) (K1 : Int → Int → Int → Int → Int → Option R), l_impl_zeroOfFour_6 k fuel a b c d x y K0 K1 = ans4 o K0 (K1 a b c d x)) ∧
      (∀ fuel, j < fuel → ∀ (K0 : List Int → Bool → Option R) (K1 : List Int → Int → Option R), l_spec_l5Four_5 k fuel [a, b, c, d] x y K0 K1 = ans4 o K0 (K1 [a, b, c, d] x))
  | 0, y, hy, hj => by
    have : y = 4 := by omega
    subst this
    refine ⟨none, (fun v h => by cases h), fun fuel hf K0 K1 => ?_, fun fuel hf K0 K1 => ?_⟩
    · obtain ⟨n, rfl⟩ : ∃ n, fuel = n + 1 := ⟨fuel - 1, by omega⟩
      simp [l_impl_zeroOfFour_6, ans4]
    · obtain ⟨n, rfl⟩ : ∃ n, fuel = n + 1 := ⟨fuel - 1, by omega⟩
      simp [l_spec_l5Four_5, ans4]
  | j + 1, y, hy, hj => by
    obtain ⟨o', g1, g3, g4⟩ := four_y (R := R) hk ha hb hc hd hx j (y + 1) (by omega) (by omega)
    have wy1 : IntKind.wrap .i64 (y + 1) = y + 1 := small_wrap (by omega)
    have y3 : y ≤ 3 := by omega
    by_cases h0 : x = 0 ∧ y = 0
    · obtain ⟨hx0, hy0⟩ := h0
      refine ⟨o', g1, fun fuel hf K0 K1 => ?_, fun fuel hf K0 K1 => ?_⟩
      · obtain ⟨n, rfl⟩ : ∃ n, fuel = n + 1 := ⟨fuel - 1, by omega⟩
        rw [← g3 n (by omega) K0 K1]
        simp only [l_impl_zeroOfFour_6, y3, decide_true, cond_true, hx0, hy0, wy1]
        rw [hy0] at wy1
        rw [wy1]
        rfl
      · obtain ⟨n, rfl⟩ : ∃ n, fuel = n + 1 := ⟨fuel - 1, by omega⟩
        rw [← g4 n (by omega) K0 K1]
        simp only [l_spec_l5Four_5, y3, decide_true, cond_true, hx0, hy0, wy1]
        rw [hy0] at wy1
        rw [wy1]
        rfl
    · have hxy : x ≠ 0 ∨ y ≠ 0 := by omega
      obtain ⟨o, h1, h3, h4⟩ := pair_ex (R := R) hk (x := x) (y := y) ha hb hc hd hx ⟨hy, y3⟩ hxy
      have a1 : (a * x).natAbs ≤ 30 * 3 := mul_abs ha.2 (by omega)
      have a2 : (a * x * x).natAbs ≤ 30 * 3 * 3 := mul_abs a1 (by omega)
      have b1 : (b * y).natAbs ≤ 30 * 3 := mul_abs hb.2 (by omega)
      have b2 : (b * y * y).natAbs ≤ 30 * 3 * 3 := mul_abs b1 (by omega)
      have wt : IntKind.wrap .i64 ((IntKind.wrap .i64 ((IntKind.wrap .i64 (a * x)) * x)) + (IntKind.wrap .i64 ((IntKind.wrap .i64 (b * y)) * y))) = a * x * x + b * y * y := by
        rw [small_wrap (x := a * x) (by omega), small_wrap (x := a * x * x) (by omega), small_wrap (x := b * y) (by omega), small_wrap (x := b * y * y) (by omega), small_wrap (by omega)]
      have hi : ∀ (n : Nat) (K0 : List Int → Bool → Option R) (K1 : Int → Int → Int → Int → Int → Option R), l_impl_zeroOfFour_6 k (n + 1) a b c d x y K0 K1 = ans4 o K0 (l_impl_zeroOfFour_6 k n a b c d x (y + 1) K0 K1) := fun n K0 K1 => by
        rw [← h3]
        by_cases hx0 : x = 0
        · have hy0 : y ≠ 0 := by omega
          simp only [l_impl_zeroOfFour_6, y3, decide_true, cond_true, show decide (x = 0) = true by simpa using hx0, show decide (y = 0) = false by simpa using hy0, cond_false, wy1, wt]
        · simp only [l_impl_zeroOfFour_6, y3, decide_true, cond_true, show decide (x = 0) = false by simpa using hx0, cond_false, wy1, wt]
      have hs : ∀ (n : Nat) (K0 : List Int → Bool → Option R) (K1 : List Int → Int → Option R), l_spec_l5Four_5 k (n + 1) [a, b, c, d] x y K0 K1 = ans4 o K0 (l_spec_l5Four_5 k n [a, b, c, d] x (y + 1) K0 K1) := fun n K0 K1 => by
        rw [← h4]
        have q0 : (decide ((0 : Nat) ≤ 0) && decide ((0 : Int) < (([a, b, c, d] : List Int).length : Int))) = true := rfl
        have q1 : (decide ((0 : Nat) ≤ 1) && decide ((1 : Int) < (([a, b, c, d] : List Int).length : Int))) = true := rfl
        have q2 : (decide ((0 : Nat) ≤ 2) && decide ((2 : Int) < (([a, b, c, d] : List Int).length : Int))) = true := rfl
        have q3 : (decide ((0 : Nat) ≤ 3) && decide ((3 : Int) < (([a, b, c, d] : List Int).length : Int))) = true := rfl
        have v0 : List.getD [a, b, c, d] (Int.toNat 0) 0 = a := rfl
        have v1 : List.getD [a, b, c, d] (Int.toNat 1) 0 = b := rfl
        have v2 : List.getD [a, b, c, d] (Int.toNat 2) 0 = c := rfl
        have v3 : List.getD [a, b, c, d] (Int.toNat 3) 0 = d := rfl
        by_cases hx0 : x = 0
        · have hy0 : y ≠ 0 := by omega
          simp only [l_spec_l5Four_5, q0, q1, q2, q3, v0, v1, v2, v3, y3, decide_true, cond_true, show decide (x = 0) = true by simpa using hx0, show decide (y = 0) = false by simpa using hy0, cond_false, wy1, wt]
        · simp only [l_spec_l5Four_5, q0, q1, q2, q3, v0, v1, v2, v3, y3, decide_true, cond_true, show decide (x = 0) = false by simpa using hx0, cond_false, wy1, wt]
      cases o with
      | some v =>
        refine ⟨some v, h1, fun fuel hf K0 K1 => ?_, fun fuel hf K0 K1 => ?_⟩
        · obtain ⟨n, rfl⟩ : ∃ n, fuel = n + 1 := ⟨fuel - 1, by omega⟩
          rw [hi]; rfl
        · obtain ⟨n, rfl⟩ : ∃ n, fuel = n + 1 := ⟨fuel - 1, by omega⟩
          rw [hs]; rfl
      | none =>
        refine ⟨o', g1, fun fuel hf K0 K1 => ?_, fun fuel hf K0 K1 => ?_⟩
        · obtain ⟨n, rfl⟩ : ∃ n, fuel = n + 1 := ⟨fuel - 1, by omega⟩
          rw [hi]; exact g3 n (by omega) K0 K1
        · obtain ⟨n, rfl⟩ : ∃ n, fuel = n + 1 := ⟨fuel - 1, by omega⟩
          rw [hs]; exact g4 n (by omega) K0 K1

theorem four_x {R : Type} {k : Nat} (hk : 60000 ≤ k) {a b c d : Int} (ha : a ≠ 0 ∧ a.natAbs ≤ 30) (hb : b ≠ 0 ∧ b.natAbs ≤ 30) (hc : c ≠ 0 ∧ c.natAbs ≤ 30) (hd : d ≠ 0 ∧ d.natAbs ≤ 30) : ∀ (j : Nat) (x : Int), 0 ≤ x → x + j = 4 →
    ∃ o : Option (List Int), ZF [a, b, c, d] o ∧
      (∀ fuel, j < fuel → ∀ (K0 : List Int → Bool → Option R) (N : Option R), l_impl_zeroOfFour_3 k fuel a b c d x K0 N = ans4 o K0 N) ∧
      (∀ fuel, j < fuel → ∀ (K0 : List Int → Bool → Option R) (N : Option R), l_spec_l5Four_2 k fuel [a, b, c, d] x K0 N = ans4 o K0 N)
  | 0, x, hx, hj => by
    have : x = 4 := by omega
    subst this
    refine ⟨none, (fun v h => by cases h), fun fuel hf K0 K1 => ?_, fun fuel hf K0 K1 => ?_⟩
    · obtain ⟨n, rfl⟩ : ∃ n, fuel = n + 1 := ⟨fuel - 1, by omega⟩
      simp [l_impl_zeroOfFour_3, ans4]
    · obtain ⟨n, rfl⟩ : ∃ n, fuel = n + 1 := ⟨fuel - 1, by omega⟩
      simp [l_spec_l5Four_2, ans4]
  | j + 1, x, hx, hj => by
    obtain ⟨o', g1, g3, g4⟩ := four_x (R := R) hk ha hb hc hd j (x + 1) (by omega) (by omega)
    have wx1 : IntKind.wrap .i64 (x + 1) = x + 1 := small_wrap (by omega)
    have x3 : x ≤ 3 := by omega
    obtain ⟨o, h1, h3, h4⟩ := four_y (R := R) hk (x := x) ha hb hc hd ⟨hx, x3⟩ 4 0 (by omega) (by omega)
    cases o with
    | some v =>
      refine ⟨some v, h1, fun fuel hf K0 K1 => ?_, fun fuel hf K0 K1 => ?_⟩
      · obtain ⟨n, rfl⟩ : ∃ n, fuel = n + 1 := ⟨fuel - 1, by omega⟩
        simp only [l_impl_zeroOfFour_3, x3, decide_true, cond_true, h3 k (by omega), ans4]
      · obtain ⟨n, rfl⟩ : ∃ n, fuel = n + 1 := ⟨fuel - 1, by omega⟩
        simp only [l_spec_l5Four_2, x3, decide_true, cond_true, h4 k (by omega), ans4]
    | none =>
      refine ⟨o', g1, fun fuel hf K0 K1 => ?_, fun fuel hf K0 K1 => ?_⟩
      · obtain ⟨n, rfl⟩ : ∃ n, fuel = n + 1 := ⟨fuel - 1, by omega⟩
        rw [← g3 n (by omega) K0 K1]
        simp only [l_impl_zeroOfFour_3, x3, decide_true, cond_true, h3 k (by omega), wx1]
        rfl
      · obtain ⟨n, rfl⟩ : ∃ n, fuel = n + 1 := ⟨fuel - 1, by omega⟩
        rw [← g4 n (by omega) K0 K1]
        simp only [l_spec_l5Four_2, x3, decide_true, cond_true, h4 k (by omega), wx1]
        rfl

theorem Valid.abs {l : List Int} (h : Valid l) : ∀ x ∈ l, x ≠ 0 ∧ x.natAbs ≤ 30 := fun x hx => by have := h.t x hx; omega

/-- What ZeroFind says of a form, for both. -/
theorem zf_ex {R : Type} {k : Nat} (hk : 60000 ≤ k) {l : List Int} (h : Valid l) :
    ∃ o : Option (List Int), ZF l o ∧ (∀ a b, l = [a, b] → o = none → cor a ≠ -cor b) ∧ (∀ a b c, l = [a, b, c] → o = none → ¬ Box a b c) ∧ (l.length = 1 → o = none) ∧
      (∀ K : List Int → Bool → Option R, f_impl_ZeroFind k l K = ans o K) ∧ (∀ K : List Int → Bool → Option R, f_spec_ZeroFind k l K = ans o K) := by
  have hv := valid_iff.2 h
  have hab := h.abs
  have hlo := h.lo
  have hhi := h.hi
  have hvv : ∀ K : Bool → Option R, f_impl_FormValid k l K = K true := fun K => by rw [f_impl_FormValid_eq h.sz (by omega) (by omega), hv]
  have hsv : ∀ K : Bool → Option R, f_spec_FormValid k l K = K true := fun K => by rw [f_spec_FormValid_eq (by omega) (by omega), hv]
  match l, hlo, hhi with
  | [a], _, _ =>
    refine ⟨none, (fun v h => by cases h), (fun a b h => by cases h), (fun a b c h => by cases h), fun _ => rfl, fun K => ?_, fun K => ?_⟩
    · simp [f_impl_ZeroFind, hvv, ans]
    · simp [f_spec_ZeroFind, hsv, ans]
  | [a, b], _, _ =>
    have ha := hab a (by simp)
    have hb := hab b (by simp)
    have la := rt_le ha.1
    have lb := rt_le hb.1
    have wn : IntKind.wrap .i64 (0 - cor b) = -cor b := by rw [show 0 - cor b = -cor b by omega]; exact small_wrap (by omega)
    have ws : IntKind.wrap .i64 (cor a + cor b) = cor a + cor b := small_wrap (by omega)
    by_cases he : cor a = -cor b
    · have pa := rt_pos ha.1
      have pb := rt_pos hb.1
      have ra := rt_small ha.1 ha.2
      have rb := rt_small hb.1 hb.2
      have hall : ∀ t ∈ [rt b, rt a], t.natAbs ≤ 10000000000000 := fun t ht => by
        simp only [List.mem_cons, List.not_mem_nil, or_false] at ht
        rcases ht with rfl | rfl <;> omega
      have hsz : Sz [rt b, rt a] := fun t ht => by have := hall t ht; omega
      have hg : gcdL [rt b, rt a] ≠ 0 := gcd_ne.2 ⟨rt b, by simp, by omega⟩
      have hqf : qf [a, b] [rt b, rt a] = 0 := by
        simp only [qf]
        have e1 := (cor_spec ha.1).eq
        have e2 := (cor_spec hb.1).eq
        rw [he] at e1
        generalize rt a = r at *
        generalize rt b = s at *
        generalize cor b = m at *
        subst e1 e2
        clear hall hab la lb
        grind
      have hes : cor a + cor b = 0 := by omega
      refine ⟨some (plainL [rt b, rt a]), (fun v h => by cases h; exact ⟨by rw [plain_len]; rfl, plain_qf hg hqf, plain_gcd hg, plain_abs hall⟩), (fun _ _ _ h => by cases h), (fun a b c h => by cases h), (fun h => by simp at h), fun K => ?_, fun K => ?_⟩
      · simp [f_impl_ZeroFind, hvv, ans, f_impl_coreOf_eq hk ha.1 (show a.natAbs ≤ 25000000 by omega), f_impl_coreOf_eq hk hb.1 (show b.natAbs ≤ 25000000 by omega), wn, he, f_impl_plain_eq (show 1000 ≤ k by omega) hsz (by simp) hg, show IntKind.wrap .i64 (-cor b) = -cor b from small_wrap (by omega)]
      · simp [f_spec_ZeroFind, hsv, ans, f_spec_l1Core_eq hk ha.1 (show a.natAbs ≤ 25000000 by omega), f_spec_l1Core_eq hk hb.1 (show b.natAbs ≤ 25000000 by omega), ws, hes, show IntKind.wrap .i64 0 = 0 from rfl, f_spec_l5Plain_eq (show 1000 ≤ k by omega) hsz (by simp) hg]
    · have hes : ¬ cor a + cor b = 0 := by omega
      refine ⟨none, (fun v h => by cases h), (fun a' b' h _ => by cases h; exact he), (fun a b c h => by cases h), (fun h => by simp at h), fun K => ?_, fun K => ?_⟩
      · simp [f_impl_ZeroFind, hvv, ans, f_impl_coreOf_eq hk ha.1 (show a.natAbs ≤ 25000000 by omega), f_impl_coreOf_eq hk hb.1 (show b.natAbs ≤ 25000000 by omega), he, show IntKind.wrap .i64 (-cor b) = -cor b from small_wrap (by omega)]
      · simp [f_spec_ZeroFind, hsv, ans, f_spec_l1Core_eq hk ha.1 (show a.natAbs ≤ 25000000 by omega), f_spec_l1Core_eq hk hb.1 (show b.natAbs ≤ 25000000 by omega), ws, hes]
  | [a, b, c], _, _ =>
    obtain ⟨o, h1, h2, h3, _, h5⟩ := three_ex (R := R) hk (a := a) (b := b) (c := c) ⟨hab a (by simp), hab b (by simp), hab c (by simp)⟩
    refine ⟨o, (fun v hv => by obtain ⟨e1, e2, e3, e4⟩ := h1 v hv; exact ⟨e1, e2, e3, fun x hx => by have := e4 x hx; omega⟩), (fun a b h => by cases h), (fun a b c h => by cases h; exact h2), (fun h => by simp at h), h3, fun K => ?_⟩
    simp [f_spec_ZeroFind, hsv, h5]
  | [a, b, c, d], _, _ =>
    obtain ⟨o, h1, h3, h4⟩ := four_x (R := R) hk (hab a (by simp)) (hab b (by simp)) (hab c (by simp)) (hab d (by simp)) 4 0 (by omega) (by omega)
    refine ⟨o, h1, (fun a b h => by cases h), (fun a b c h => by cases h), (fun h => by simp at h), fun K => ?_, fun K => ?_⟩
    · have h3' : l_impl_zeroOfFour_3 k k a b c d 0 (fun y31 y32 => K y31 y32) (K [] false) = ans o K := h3 k (by omega) _ _
      simp [f_impl_ZeroFind, f_impl_zeroOfFour, hvv, h3']
    · have h4' : l_spec_l5Four_2 k k [a, b, c, d] 0 (fun y24 y25 => K y24 y25) (K [] false) = ans o K := h4 k (by omega) _ _
      simp [f_spec_ZeroFind, f_spec_l5Four, hsv, h4']

end Go.Proofs.Ytmmadcccjicdcaa.E
