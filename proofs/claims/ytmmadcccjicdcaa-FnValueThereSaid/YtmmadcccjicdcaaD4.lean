/- The search for a zero of normal terms: the program's and the reference's. -/
import Derived.Test.YtmmadcccjicdcaaD3
namespace Go.Proofs.Ytmmadcccjicdcaa.E
set_option linter.unusedVariables false
set_option linter.unusedSimpArgs false
set_option maxRecDepth 100000

theorem mul_abs {a b : Int} {m n : Nat} (ha : a.natAbs ≤ m) (hb : b.natAbs ≤ n) : (a * b).natAbs ≤ m * n := by rw [Int.natAbs_mul]; exact Nat.mul_le_mul ha hb

theorem isRoot_ex {N : Int} (h0 : 0 ≤ N) (h1 : N < 4611686018427387904) : ∃ r, IsRoot N r := by
  obtain ⟨r, hr, _⟩ := f_impl_squareRoot_root (R := Unit) (k := 33) (by omega) h0 h1
  exact ⟨r, hr⟩

theorem root_sq {N r x : Int} (hr : IsRoot N r) (hx : 0 ≤ x) (h : x * x = N) : r * r = N := by
  obtain ⟨h1, h2, h3, h4⟩ := hr
  have a : r ≤ x := le_of_sq hx (by omega)
  have b : x < r + 1 := lt_of_sq (by omega) (by omega)
  have : x = r := by omega
  subst this
  exact h

/-- What one pair of the search finds. -/
theorem hit_ex {R : Type} {k : Nat} (hk : 60000 ≤ k) {A B C x y : Int} (hA : A.natAbs ≤ 27000) (hB : B.natAbs ≤ 27000) (hC : C ≠ 0) (hx : 0 ≤ x ∧ x ≤ 200) (hy : 0 ≤ y ∧ y ≤ 200) :
    ∃ o : Option Int, (∀ r, o = some r → 0 ≤ r ∧ r ≤ 100000 ∧ A * x * x + B * y * y + C * r * r = 0 ∧ (x ≠ 0 ∨ y ≠ 0)) ∧ (o = none → ∀ r : Int, A * x * x + B * y * y + C * r * r = 0 → x = 0 ∧ y = 0) ∧
      (∀ (K0 : Bool → List Int → Option R) (N : Option R), cond (!decide ((Int.tmod (IntKind.wrap .i64 ((IntKind.wrap .i64 ((IntKind.wrap .i64 ((IntKind.wrap .i64 (0 - A)) * x)) * x)) - (IntKind.wrap .i64 ((IntKind.wrap .i64 (B * y)) * y)))) C) = 0)) N
        (f_impl_squareRoot k (IntKind.wrap .i64 (Int.tdiv (IntKind.wrap .i64 ((IntKind.wrap .i64 ((IntKind.wrap .i64 ((IntKind.wrap .i64 (0 - A)) * x)) * x)) - (IntKind.wrap .i64 ((IntKind.wrap .i64 (B * y)) * y)))) C)) (fun r27 r28 => cond (r28) (cond (!decide (x = 0)) (K0 true [x, y, r27]) (cond (!decide (y = 0)) (K0 true [x, y, r27]) (cond (!decide (r27 = 0)) (K0 true [x, y, r27]) N))) N)) = match o with | some r => K0 true [x, y, r] | none => N) ∧
      (∀ (K0 : Bool → List Int → Option R) (N : Option R), cond (!decide ((Int.tmod (IntKind.wrap .i64 ((IntKind.wrap .i64 (0 - (IntKind.wrap .i64 ((IntKind.wrap .i64 (A * x)) * x)))) - (IntKind.wrap .i64 ((IntKind.wrap .i64 (B * y)) * y)))) C) = 0)) N
        (cond (decide ((IntKind.wrap .i64 (Int.tdiv (IntKind.wrap .i64 ((IntKind.wrap .i64 (0 - (IntKind.wrap .i64 ((IntKind.wrap .i64 (A * x)) * x)))) - (IntKind.wrap .i64 ((IntKind.wrap .i64 (B * y)) * y)))) C)) < 0)) N
          (cond (decide (x = 0)) (cond (decide (y = 0)) N (f_spec_l5Root k (IntKind.wrap .i64 (Int.tdiv (IntKind.wrap .i64 ((IntKind.wrap .i64 (0 - (IntKind.wrap .i64 ((IntKind.wrap .i64 (A * x)) * x)))) - (IntKind.wrap .i64 ((IntKind.wrap .i64 (B * y)) * y)))) C)) (fun r12 => cond (decide (0 ≤ r12)) (K0 true [x, y, r12]) N)))
            (f_spec_l5Root k (IntKind.wrap .i64 (Int.tdiv (IntKind.wrap .i64 ((IntKind.wrap .i64 (0 - (IntKind.wrap .i64 ((IntKind.wrap .i64 (A * x)) * x)))) - (IntKind.wrap .i64 ((IntKind.wrap .i64 (B * y)) * y)))) C)) (fun r13 => cond (decide (0 ≤ r13)) (K0 true [x, y, r13]) N)))) = match o with | some r => K0 true [x, y, r] | none => N) := by
  have a1 : (A * x).natAbs ≤ 27000 * 200 := mul_abs hA (by omega)
  have a2 : (A * x * x).natAbs ≤ 27000 * 200 * 200 := mul_abs a1 (by omega)
  have b1 : (B * y).natAbs ≤ 27000 * 200 := mul_abs hB (by omega)
  have b2 : (B * y * y).natAbs ≤ 27000 * 200 * 200 := mul_abs b1 (by omega)
  have e1 : (0 - A) * x = -(A * x) := by grind
  have e2 : -(A * x) * x = -(A * x * x) := by grind
  have e3 : 0 - A * x * x = -(A * x * x) := by omega
  have w0 : ∀ z : Int, z.natAbs ≤ 100000000000 → IntKind.wrap .i64 z = z := fun z hz => wrap_abs (by omega)
  have E1 : (IntKind.wrap .i64 ((IntKind.wrap .i64 ((IntKind.wrap .i64 ((IntKind.wrap .i64 (0 - A)) * x)) * x)) - (IntKind.wrap .i64 ((IntKind.wrap .i64 (B * y)) * y)))) = -(A * x * x) - B * y * y := by
    rw [w0 (0 - A) (by omega), e1, w0 (-(A * x)) (by omega), e2, w0 (-(A * x * x)) (by omega), w0 (B * y) (by omega), w0 (B * y * y) (by omega), w0 _ (by omega)]
  have E2 : (IntKind.wrap .i64 ((IntKind.wrap .i64 (0 - (IntKind.wrap .i64 ((IntKind.wrap .i64 (A * x)) * x)))) - (IntKind.wrap .i64 ((IntKind.wrap .i64 (B * y)) * y)))) = -(A * x * x) - B * y * y := by
    rw [w0 (A * x) (by omega), w0 (A * x * x) (by omega), e3, w0 (-(A * x * x)) (by omega), w0 (B * y) (by omega), w0 (B * y * y) (by omega), w0 _ (by omega)]
  simp only [E1, E2]
  generalize hN : -(A * x * x) - B * y * y = n at *
  have hn : n.natAbs ≤ 2160000000 := by omega
  have hq : (n.tdiv C).natAbs ≤ n.natAbs := natAbs_tdiv_le n C
  rw [w0 (n.tdiv C) (by omega)]
  by_cases hd : n.tmod C = 0
  · have hCd : C ∣ n := Int.dvd_of_tmod_eq_zero hd
    have hm : n.tdiv C * C = n := Int.tdiv_mul_cancel hCd
    generalize n.tdiv C = m at *
    have hzero : ∀ r : Int, A * x * x + B * y * y + C * r * r = 0 ↔ r * r = m := fun r => by
      constructor
      · intro h
        have : r * r * C = m * C := by rw [hm, ← hN]; grind
        exact Int.eq_of_mul_eq_mul_right hC this
      · intro h
        have : C * r * r = m * C := by rw [← h]; grind
        omega
    by_cases hneg : m < 0
    · refine ⟨none, (fun r h => by cases h), fun _ r hr => ?_, fun K0 N => ?_, fun K0 N => ?_⟩
      · have := (hzero r).1 hr
        have := sq_nonneg r
        omega
      · simp only [hd, decide_true, Bool.not_true, cond_false, f_impl_squareRoot_neg hneg]
      · simp only [hd, decide_true, Bool.not_true, cond_false, hneg, cond_true]
    · obtain ⟨r, hr, hroot⟩ := f_impl_squareRoot_root (R := R) (k := k) (by omega) (show 0 ≤ m by omega) (show m < 4611686018427387904 by omega)
      have hsroot := fun K : Int → Option R => f_spec_l5Root_root (R := R) (k := k) (by omega) (show 0 ≤ m by omega) (show m ≤ 1099511627776 by omega) hr K
      have hr1 := hr.1
      have hrb : r ≤ 100000 := by
        have h3 := hr.2.2.1
        rcases Int.lt_or_le 100000 r with h | h
        · have : 100001 * 100001 ≤ r * r := sq_le (by omega) (by omega)
          omega
        · exact h
      by_cases hxy : x = 0 ∧ y = 0
      · obtain ⟨rfl, rfl⟩ := hxy
        have hm0 : m = 0 := by
          have h0 : n = 0 := by rw [← hN]; simp
          rw [h0] at hm
          rcases Int.mul_eq_zero.1 hm with h | h
          · exact h
          · exact absurd h hC
        have hr0 : r = 0 := by
          have h3 := hr.2.2.1
          rw [hm0] at h3
          have := le_of_sq (x := r) (y := 0) (by omega) (by omega)
          omega
        subst hm0
        subst hr0
        refine ⟨none, (fun r h => by cases h), fun _ r hr => ⟨rfl, rfl⟩, fun K0 N => ?_, fun K0 N => ?_⟩
        · simp [hd, hroot]
        · simp [hd]
      · have hxy' : x ≠ 0 ∨ y ≠ 0 := by omega
        by_cases hsq : r * r = m
        · refine ⟨some r, (fun r' h => by cases h; exact ⟨hr1, hrb, (hzero r).2 hsq, hxy'⟩), (fun h => by cases h), fun K0 N => ?_, fun K0 N => ?_⟩
          · by_cases hx0 : x = 0
            · have hy0 : y ≠ 0 := by omega
              simp [hd, hroot, hsq, hx0, hy0]
            · simp [hd, hroot, hsq, hx0]
          · by_cases hx0 : x = 0
            · have hy0 : y ≠ 0 := by omega
              simp [hd, hsroot, hsq, hx0, hy0, hneg, hr1]
            · simp [hd, hsroot, hsq, hx0, hneg, hr1]
        · refine ⟨none, (fun r h => by cases h), fun _ r' hr' => ?_, fun K0 N => ?_, fun K0 N => ?_⟩
          · exfalso
            have h5 := (hzero r').1 hr'
            have h6 : ((r'.natAbs : Nat) : Int) * (r'.natAbs : Nat) = m := by rw [← h5, ← Int.natCast_mul, Int.natAbs_mul_self]
            exact hsq (root_sq hr (by omega) h6)
          · simp [hd, hroot, hsq]
          · by_cases hx0 : x = 0
            · have hy0 : y ≠ 0 := by omega
              simp [hd, hsroot, hsq, hx0, hy0, hneg]
            · simp [hd, hsroot, hsq, hx0, hneg]
  · refine ⟨none, (fun r h => by cases h), fun _ r hr => ?_, fun K0 N => ?_, fun K0 N => ?_⟩
    · exfalso
      have e : C * (r * r) = C * r * r := by rw [Int.mul_assoc]
      exact hd (Int.tmod_eq_zero_of_dvd ⟨r * r, by rw [← hN, e]; omega⟩)
    · simp [hd]
    · simp [hd]

theorem y_search {R : Type} {k : Nat} (hk : 60000 ≤ k) {A B C x : Int} (hA : A.natAbs ≤ 27000) (hB : B.natAbs ≤ 27000) (hC : C ≠ 0) (hAC : (A * C).natAbs ≤ 27000) (hx : 0 ≤ x ∧ x ≤ 200) : ∀ (j : Nat) (y : Int), 0 ≤ y → y + j ≤ 170 → ((A * C).natAbs : Int) < (y + j) * (y + j) →
    ∃ o : Option (Int × Int), (∀ y' r, o = some (y', r) → 0 ≤ y' ∧ y' ≤ 200 ∧ 0 ≤ r ∧ r ≤ 100000 ∧ A * x * x + B * y' * y' + C * r * r = 0 ∧ (x ≠ 0 ∨ y' ≠ 0)) ∧
      (o = none → ∀ y' : Int, y ≤ y' → y' * y' ≤ (A * C).natAbs → ∀ r : Int, A * x * x + B * y' * y' + C * r * r = 0 → x = 0 ∧ y' = 0) ∧
      (∀ fuel, j < fuel → ∀ (K0 : Bool → List Int → Option R) (K1 : Int → Int → Int → Int → Option R), l_impl_ZeroSearch_20 k fuel A B C x y K0 K1 = match o with | some (y', r) => K0 true [x, y', r] | none => K1 A B C x) ∧
      (∀ fuel, j < fuel → ∀ (K0 : Bool → List Int → Option R) (K1 : Int → Int → Int → Int → Option R), l_spec_l5Search_8 k fuel A B C x y K0 K1 = match o with | some (y', r) => K0 true [x, y', r] | none => K1 A B C x)
  | j, y, hy, hj, hsq => by
    have wAC : IntKind.wrap .i64 (A * C) = A * C := wrap_abs (by omega)
    have hyy : y * y ≤ 170 * 170 := sq_le hy (by omega)
    have hyn := sq_nonneg y
    have wy : IntKind.wrap .i64 (y * y) = y * y := wrap_id (by omega) (by omega)
    have wy1 : IntKind.wrap .i64 (y + 1) = y + 1 := wrap_id (by omega) (by omega)
    by_cases hle : y * y ≤ (A * C).natAbs
    · obtain ⟨o, h1, h2, h3, h4⟩ := hit_ex (R := R) hk (x := x) (y := y) hA hB hC hx ⟨hy, by omega⟩
      match j with
      | 0 => rw [show y + ((0 : Nat) : Int) = y by omega] at hsq; omega
      | j + 1 =>
        obtain ⟨o', g1, g2, g3, g4⟩ := y_search (R := R) hk hA hB hC hAC hx j (y + 1) (by omega) (by omega) (by rw [show y + 1 + (j : Int) = y + ((j + 1 : Nat) : Int) by omega]; exact hsq)
        cases o with
        | some r =>
          refine ⟨some (y, r), (fun y' r' h => by cases h; have := h1 r rfl; exact ⟨hy, by omega, this.1, this.2.1, this.2.2⟩), (fun h => by cases h), fun fuel hf K0 K1 => ?_, fun fuel hf K0 K1 => ?_⟩
          · obtain ⟨n, rfl⟩ : ∃ n, fuel = n + 1 := ⟨fuel - 1, by omega⟩
            have := h3 K0 (l_impl_ZeroSearch_20 k n A B C x (y + 1) K0 K1)
            simp only [l_impl_ZeroSearch_20, wAC, f_impl_size_eq k (show (A * C).natAbs < 9223372036854775808 by omega), wy, hle, decide_true, cond_true, hC, decide_false, Bool.not_false, wy1]
            exact this
          · obtain ⟨n, rfl⟩ : ∃ n, fuel = n + 1 := ⟨fuel - 1, by omega⟩
            have := h4 K0 (l_spec_l5Search_8 k n A B C x (y + 1) K0 K1)
            simp only [l_spec_l5Search_8, wAC, f_spec_l1Size_eq k (show (A * C).natAbs < 9223372036854775808 by omega), wy, hle, decide_true, cond_true, hC, decide_false, Bool.not_false, wy1]
            exact this
        | none =>
          refine ⟨o', g1, fun ho y' hy' hys r hr => ?_, fun fuel hf K0 K1 => ?_, fun fuel hf K0 K1 => ?_⟩
          · by_cases he : y' = y
            · subst he; exact h2 rfl r hr
            · exact g2 ho y' (by omega) hys r hr
          · obtain ⟨n, rfl⟩ : ∃ n, fuel = n + 1 := ⟨fuel - 1, by omega⟩
            have := h3 K0 (l_impl_ZeroSearch_20 k n A B C x (y + 1) K0 K1)
            rw [← g3 n (by omega) K0 K1]
            simp only [l_impl_ZeroSearch_20, wAC, f_impl_size_eq k (show (A * C).natAbs < 9223372036854775808 by omega), wy, hle, decide_true, cond_true, hC, decide_false, Bool.not_false, wy1]
            exact this
          · obtain ⟨n, rfl⟩ : ∃ n, fuel = n + 1 := ⟨fuel - 1, by omega⟩
            have := h4 K0 (l_spec_l5Search_8 k n A B C x (y + 1) K0 K1)
            rw [← g4 n (by omega) K0 K1]
            simp only [l_spec_l5Search_8, wAC, f_spec_l1Size_eq k (show (A * C).natAbs < 9223372036854775808 by omega), wy, hle, decide_true, cond_true, hC, decide_false, Bool.not_false, wy1]
            exact this
    · refine ⟨none, (fun y' r h => by cases h), fun _ y' hy' hys r hr => ?_, fun fuel hf K0 K1 => ?_, fun fuel hf K0 K1 => ?_⟩
      · have := sq_le hy hy'
        omega
      · obtain ⟨n, rfl⟩ : ∃ n, fuel = n + 1 := ⟨fuel - 1, by omega⟩
        simp only [l_impl_ZeroSearch_20, wAC, f_impl_size_eq k (show (A * C).natAbs < 9223372036854775808 by omega), wy, hle, decide_false, cond_false]
      · obtain ⟨n, rfl⟩ : ∃ n, fuel = n + 1 := ⟨fuel - 1, by omega⟩
        simp only [l_spec_l5Search_8, wAC, f_spec_l1Size_eq k (show (A * C).natAbs < 9223372036854775808 by omega), wy, hle, decide_false, cond_false]

theorem x_search {R : Type} {k : Nat} (hk : 60000 ≤ k) {A B C : Int} (hA : A.natAbs ≤ 27000) (hB : B.natAbs ≤ 27000) (hC : C ≠ 0) (hAC : (A * C).natAbs ≤ 27000) (hBC : (B * C).natAbs ≤ 27000) : ∀ (j : Nat) (x : Int), 0 ≤ x → x + j ≤ 170 → ((B * C).natAbs : Int) < (x + j) * (x + j) →
    ∃ o : Option (Int × Int × Int), (∀ x' y' r, o = some (x', y', r) → 0 ≤ x' ∧ x' ≤ 200 ∧ 0 ≤ y' ∧ y' ≤ 200 ∧ 0 ≤ r ∧ r ≤ 100000 ∧ A * x' * x' + B * y' * y' + C * r * r = 0 ∧ (x' ≠ 0 ∨ y' ≠ 0)) ∧
      (o = none → ∀ x' y' : Int, x ≤ x' → x' * x' ≤ (B * C).natAbs → 0 ≤ y' → y' * y' ≤ (A * C).natAbs → ∀ r : Int, A * x' * x' + B * y' * y' + C * r * r = 0 → x' = 0 ∧ y' = 0) ∧
      (∀ fuel, j < fuel → ∀ (K0 : Bool → List Int → Option R) (K1 : Option R), l_impl_ZeroSearch_17 k fuel A B C x K0 K1 = match o with | some (x', y', r) => K0 true [x', y', r] | none => K1) ∧
      (∀ fuel, j < fuel → ∀ (K0 : Bool → List Int → Option R) (K1 : Option R), l_spec_l5Search_5 k fuel A B C x K0 K1 = match o with | some (x', y', r) => K0 true [x', y', r] | none => K1)
  | j, x, hx, hj, hsq => by
    have wBC : IntKind.wrap .i64 (B * C) = B * C := wrap_abs (by omega)
    have hxx : x * x ≤ 170 * 170 := sq_le hx (by omega)
    have hxn := sq_nonneg x
    have wx : IntKind.wrap .i64 (x * x) = x * x := wrap_id (by omega) (by omega)
    have wx1 : IntKind.wrap .i64 (x + 1) = x + 1 := wrap_id (by omega) (by omega)
    by_cases hle : x * x ≤ (B * C).natAbs
    · obtain ⟨o, h1, h2, h3, h4⟩ := y_search (R := R) hk (x := x) hA hB hC hAC ⟨hx, by omega⟩ 165 0 (by omega) (by omega) (by omega)
      match j with
      | 0 => rw [show x + ((0 : Nat) : Int) = x by omega] at hsq; omega
      | j + 1 =>
        obtain ⟨o', g1, g2, g3, g4⟩ := x_search (R := R) hk hA hB hC hAC hBC j (x + 1) (by omega) (by omega) (by rw [show x + 1 + (j : Int) = x + ((j + 1 : Nat) : Int) by omega]; exact hsq)
        cases o with
        | some p =>
          obtain ⟨y, r⟩ := p
          refine ⟨some (x, y, r), (fun x' y' r' h => by cases h; have := h1 y r rfl; exact ⟨hx, by omega, this.1, this.2.1, this.2.2.1, this.2.2.2.1, this.2.2.2.2⟩), (fun h => by cases h), fun fuel hf K0 K1 => ?_, fun fuel hf K0 K1 => ?_⟩
          · obtain ⟨n, rfl⟩ : ∃ n, fuel = n + 1 := ⟨fuel - 1, by omega⟩
            simp only [l_impl_ZeroSearch_17, wBC, f_impl_size_eq k (show (B * C).natAbs < 9223372036854775808 by omega), wx, hle, decide_true, cond_true, h3 k (by omega)]
          · obtain ⟨n, rfl⟩ : ∃ n, fuel = n + 1 := ⟨fuel - 1, by omega⟩
            simp only [l_spec_l5Search_5, wBC, f_spec_l1Size_eq k (show (B * C).natAbs < 9223372036854775808 by omega), wx, hle, decide_true, cond_true, h4 k (by omega)]
        | none =>
          refine ⟨o', g1, fun ho x' y' hx' hxs hy' hys r hr => ?_, fun fuel hf K0 K1 => ?_, fun fuel hf K0 K1 => ?_⟩
          · by_cases he : x' = x
            · subst he; exact h2 rfl y' hy' hys r hr
            · exact g2 ho x' y' (by omega) hxs hy' hys r hr
          · obtain ⟨n, rfl⟩ : ∃ n, fuel = n + 1 := ⟨fuel - 1, by omega⟩
            rw [← g3 n (by omega) K0 K1]
            simp only [l_impl_ZeroSearch_17, wBC, f_impl_size_eq k (show (B * C).natAbs < 9223372036854775808 by omega), wx, hle, decide_true, cond_true, h3 k (by omega), wx1]
          · obtain ⟨n, rfl⟩ : ∃ n, fuel = n + 1 := ⟨fuel - 1, by omega⟩
            rw [← g4 n (by omega) K0 K1]
            simp only [l_spec_l5Search_5, wBC, f_spec_l1Size_eq k (show (B * C).natAbs < 9223372036854775808 by omega), wx, hle, decide_true, cond_true, h4 k (by omega), wx1]
    · refine ⟨none, (fun x' y' r h => by cases h), fun _ x' y' hx' hxs hy' hys r hr => ?_, fun fuel hf K0 K1 => ?_, fun fuel hf K0 K1 => ?_⟩
      · have := sq_le hx hx'
        omega
      · obtain ⟨n, rfl⟩ : ∃ n, fuel = n + 1 := ⟨fuel - 1, by omega⟩
        simp only [l_impl_ZeroSearch_17, wBC, f_impl_size_eq k (show (B * C).natAbs < 9223372036854775808 by omega), wx, hle, decide_false, cond_false]
      · obtain ⟨n, rfl⟩ : ∃ n, fuel = n + 1 := ⟨fuel - 1, by omega⟩
        simp only [l_spec_l5Search_5, wBC, f_spec_l1Size_eq k (show (B * C).natAbs < 9223372036854775808 by omega), wx, hle, decide_false, cond_false]

end Go.Proofs.Ytmmadcccjicdcaa.E
