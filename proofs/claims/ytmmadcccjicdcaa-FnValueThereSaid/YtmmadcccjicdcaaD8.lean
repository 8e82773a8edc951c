/- Values found: the program's and the reference's, but for the law of three terms. -/
import Derived.Test.YtmmadcccjicdcaaG5d
import Derived.Test.YtmmadcccjicdcaaD7
namespace Go.Proofs.Ytmmadcccjicdcaa.E
set_option linter.unusedVariables false
set_option linter.unusedSimpArgs false
set_option maxRecDepth 100000

/-- What a vector and its denominator are divided by. -/
def lowP (o : List Int) (d : Int) : Int := (if d < 0 then -1 else 1) * (gcdL (o ++ [d]) : Nat)

theorem gcdF_gcd : ∀ (l : List Int) (g : Nat), gcdF g l = Nat.gcd g (gcdF 0 l)
  | [], g => by simp [gcdF]
  | a :: l, g => by
    show gcdF (Nat.gcd g a.natAbs) l = Nat.gcd g (gcdF (Nat.gcd 0 a.natAbs) l)
    rw [gcdF_gcd l (Nat.gcd g a.natAbs), gcdF_gcd l (Nat.gcd 0 a.natAbs), Nat.gcd_zero_left, Nat.gcd_assoc]

theorem gcd_snoc (o : List Int) (d : Int) : gcdF d.natAbs o = gcdL (o ++ [d]) := by
  have : gcdL (o ++ [d]) = Nat.gcd (gcdF 0 o) d.natAbs := by simp [gcdL, gcdF, List.foldl_append]
  rw [this, gcdF_gcd, Nat.gcd_comm]

theorem lowP_dvd {o : List Int} {d x : Int} (hx : x ∈ o ++ [d]) : lowP o d ∣ x := by
  have h := gcdL_dvd hx
  unfold lowP
  split
  · rw [Int.neg_one_mul]; exact Int.neg_dvd.2 h
  · rw [Int.one_mul]; exact h

theorem lowP_ne {o : List Int} {d : Int} (hd : d ≠ 0) : gcdL (o ++ [d]) ≠ 0 := gcd_ne.2 ⟨d, by simp, hd⟩

theorem low_den {o : List Int} {d : Int} (hd : d ≠ 0) : 1 ≤ d.tdiv (lowP o d) := by
  have h := Int.tdiv_mul_cancel (lowP_dvd (o := o) (d := d) (x := d) (by simp))
  have hg := lowP_ne (o := o) hd
  generalize d.tdiv (lowP o d) = q at *
  rcases Int.lt_or_le 0 q with h1 | h1
  · omega
  · exfalso
    unfold lowP at h
    split at h
    · have := Int.mul_nonneg (show 0 ≤ -q by omega) (show (0 : Int) ≤ (gcdL (o ++ [d]) : Nat) by omega)
      rw [Int.neg_mul] at this
      rw [Int.neg_one_mul, Int.mul_neg] at h
      omega
    · have := Int.mul_nonneg (show 0 ≤ -q by omega) (show (0 : Int) ≤ (gcdL (o ++ [d]) : Nat) by omega)
      rw [Int.neg_mul] at this
      rw [Int.one_mul] at h
      omega

theorem low_qf {l o : List Int} {t d : Int} (hd : d ≠ 0) (h : qf l o = t * d * d) : qf l (o.map (·.tdiv (lowP o d))) = t * d.tdiv (lowP o d) * d.tdiv (lowP o d) := by
  have h1 := Int.tdiv_mul_cancel (lowP_dvd (o := o) (d := d) (x := d) (by simp))
  have hs0 : lowP o d ≠ 0 := fun e => by rw [e] at h1; omega
  have e : (o.map (·.tdiv (lowP o d))).map (· * lowP o d) = o := by
    rw [List.map_map]
    conv => rhs; rw [← List.map_id o]
    exact List.map_congr_left fun x hx => Int.tdiv_mul_cancel (lowP_dvd (o := o) (d := d) (x := x) (by simp [hx]))
  have h2 := qf_scale (lowP o d) l (o.map (·.tdiv (lowP o d)))
  rw [e, h] at h2
  generalize qf l (o.map (·.tdiv (lowP o d))) = y at *
  generalize d.tdiv (lowP o d) = q at *
  generalize lowP o d = s at *
  have : y * (s * s) = t * q * q * (s * s) := by rw [← h2, ← h1]; grind
  exact Int.eq_of_mul_eq_mul_right (Int.mul_ne_zero hs0 hs0) this

/- the reference's lowering -/
theorem low_g {R : Type} {k : Nat} (hk : 200 ≤ k) {row : List Int} {d e : Int} (hs : Sz row) (hl : row.length < 1000) : ∀ (j i fuel g : Nat), i + j = row.length → j < fuel → g < 9223372036854775808 → ∀ K0 : List (List Int) → Int → Int → Int → Int → Option R,
    l_spec_l7Low_6 k fuel [row] d (g : Int) 0 (i : Int) e K0 = K0 [row] d ((gcdF g (row.drop i) : Nat) : Int) 0 e
  | 0, i, fuel, g, hi, hf, hg, K0 => by
    obtain ⟨f, rfl⟩ : ∃ f, fuel = f + 1 := ⟨fuel - 1, by omega⟩
    have : row.drop i = [] := List.drop_eq_nil_of_le (by omega)
    simp [l_spec_l7Low_6, show ¬ (i : Int) < (row.length : Int) by omega, this, gcdF, show ¬ i < row.length by omega]
  | j + 1, i, fuel, g, hi, hf, hg, K0 => by
    obtain ⟨f, rfl⟩ : ∃ f, fuel = f + 1 := ⟨fuel - 1, by omega⟩
    have hil : i < row.length := by omega
    have hx := hs _ (getD_mem hil)
    rw [getD_drop hil]
    have hv : List.getD row i 0 = row.getD i 0 := rfl
    generalize ht : row.getD i 0 = t at *
    have hg' : Nat.gcd g t.natAbs < 9223372036854775808 := by
      by_cases h0 : g = 0
      · subst h0; rw [Nat.gcd_zero_left]; exact hx
      · have := Nat.le_of_dvd (by omega) (Nat.gcd_dvd_left g t.natAbs); omega
    have ih := low_g (R := R) hk (d := d) (e := e) hs hl j (i + 1) f (Nat.gcd g t.natAbs) (by omega) (by omega) hg' K0
    have gg : ∀ K : Int → Option R, f_spec_l1Gcd k (g : Int) t K = K (Nat.gcd g t.natAbs : Nat) := fun K => by rw [f_spec_l1Gcd_eq hk (by omega) hx]; rfl
    have hgf : gcdF g (t :: row.drop (i + 1)) = gcdF (Nat.gcd g t.natAbs) (row.drop (i + 1)) := rfl
    have r0 : List.getD [row] (Int.toNat 0) [] = row := rfl
    have q0 : (decide ((0 : Int) ≤ 0) && decide ((0 : Int) < (([row] : List (List Int)).length : Int))) = true := rfl
    rw [hgf, ← ih]
    simp only [l_spec_l7Low_6, r0, q0, cond_true, show (i : Int) < (row.length : Int) by omega, show (0 : Int) ≤ (i : Int) by omega, decide_true, Bool.and_self, Int.toNat_natCast, ht, gg, add_one (show i < 4611686018427387904 by omega)]

theorem low_rows {R : Type} {k : Nat} {row : List Int} {s e f' : Int} {acc0 : List (List Int)} (hs0 : s ≠ 0) (hs : Sz row) (hl : row.length < 1000) : ∀ (j i fuel : Nat) (acc : List Int), i + j = row.length → j < fuel → acc.length + j ≤ 100000 → ∀ K0 : List (List Int) → Int → Int → Int → List (List Int) → Int → List Int → Option R,
    l_spec_l7Low_17 k fuel [row] s 0 (i : Int) e acc0 f' acc K0 = K0 [row] s 0 e acc0 f' (acc ++ (row.drop i).map (·.tdiv s))
  | 0, i, fuel, acc, hi, hf, hb, K0 => by
    obtain ⟨f, rfl⟩ : ∃ f, fuel = f + 1 := ⟨fuel - 1, by omega⟩
    have : row.drop i = [] := List.drop_eq_nil_of_le (by omega)
    simp [l_spec_l7Low_17, show ¬ (i : Int) < (row.length : Int) by omega, this, show ¬ i < row.length by omega]
  | j + 1, i, fuel, acc, hi, hf, hb, K0 => by
    obtain ⟨f, rfl⟩ : ∃ f, fuel = f + 1 := ⟨fuel - 1, by omega⟩
    have hil : i < row.length := by omega
    have hx := hs _ (getD_mem hil)
    rw [getD_drop hil]
    generalize ht : row.getD i 0 = t at *
    have hq := natAbs_tdiv_le t s
    have w2 : IntKind.wrap .i64 (t.tdiv s) = t.tdiv s := wrap_abs (by omega)
    have r0 : List.getD [row] (Int.toNat 0) [] = row := rfl
    have q0 : (decide ((0 : Int) ≤ 0) && decide ((0 : Int) < (([row] : List (List Int)).length : Int))) = true := rfl
    have ih := low_rows (R := R) (k := k) (e := e) (f' := f') (acc0 := acc0) hs0 hs hl j (i + 1) f (acc ++ [t.tdiv s]) (by omega) (by omega) (by simp; omega) K0
    simp only [l_spec_l7Low_17, r0, q0, cond_true, show (i : Int) < (row.length : Int) by omega, show (0 : Int) ≤ (i : Int) by omega, decide_true, Bool.and_self, Int.toNat_natCast, ht, hs0, decide_false, Bool.not_false, w2, ble_lim (show acc.length + 1 ≤ 4294967296 by omega), add_one (show i < 4611686018427387904 by omega)]
    rw [ih, List.append_assoc]
    rfl

theorem gcdF_small : ∀ (l : List Int) (g : Nat), g < 9223372036854775808 → Sz l → gcdF g l < 9223372036854775808
  | [], g, h, _ => h
  | a :: l, g, h, hs => gcdF_small l (Nat.gcd g a.natAbs) (by
      by_cases h0 : g = 0
      · subst h0; rw [Nat.gcd_zero_left]; exact hs a (by simp)
      · have := Nat.le_of_dvd (by omega) (Nat.gcd_dvd_left g a.natAbs); omega) fun x hx => hs x (by simp [hx])

theorem f_spec_l9Low_eq {R : Type} {k : Nat} (hk : 2000 ≤ k) {o : List Int} {d : Int} (hs : Sz o) (ho : 1 ≤ o.length) (hl : o.length < 100) (hd : d ≠ 0) (hds : d.natAbs < 9223372036854775808) (K : List Int → Int → Option R) :
    f_spec_l9Low k o d K = K (o.map (·.tdiv (lowP o d))) (d.tdiv (lowP o d)) := by
  have hgs : gcdF d.natAbs o = gcdL (o ++ [d]) := gcd_snoc o d
  have hgn := lowP_ne (o := o) hd
  have hsm := gcdF_small o d.natAbs hds hs
  obtain ⟨f, hf⟩ : ∃ f, k = f + 2 := ⟨k - 2, by omega⟩
  -- the divisor
  have hg : ∀ K0 : List (List Int) → Int → Int → Int → Option R, l_spec_l7Low_3 k k [o] d d 0 0 K0 = K0 [o] d ((gcdL (o ++ [d]) : Nat) : Int) 0 := fun K0 => by
    have h6 : ∀ K0 : List (List Int) → Int → Int → Int → Int → Option R, l_spec_l7Low_6 k k [o] d d 0 0 0 K0 = K0 [o] d ((gcdL (o ++ [d]) : Nat) : Int) 0 0 := fun K0 => by
      match o, ho with
      | x :: r, _ =>
        have hx := hs x (by simp)
        have gg : ∀ K : Int → Option R, f_spec_l1Gcd k d x K = K (Nat.gcd d.natAbs x.natAbs : Nat) := fun K => f_spec_l1Gcd_eq (by omega) hds hx K
        have hg' : Nat.gcd d.natAbs x.natAbs < 9223372036854775808 := by have := Nat.le_of_dvd (show 0 < d.natAbs by omega) (Nat.gcd_dvd_left d.natAbs x.natAbs); omega
        have h7 := low_g (R := R) (k := k) (by omega) (d := d) (e := 0) hs (by omega) r.length 1 (f + 1) (Nat.gcd d.natAbs x.natAbs) (by simp; omega) (by simp at hl; omega) hg' K0
        have hgf : gcdF (Nat.gcd d.natAbs x.natAbs) ((x :: r).drop 1) = gcdL (x :: r ++ [d]) := hgs
        rw [hgf] at h7
        rw [← h7]
        have : ∀ n, l_spec_l7Low_6 k (n + 1) [x :: r] d d 0 0 0 K0 = l_spec_l7Low_6 k n [x :: r] d ((Nat.gcd d.natAbs x.natAbs : Nat) : Int) 0 ((1 : Nat) : Int) 0 K0 := fun n => by
          have r0 : List.getD [x :: r] (Int.toNat 0) [] = x :: r := rfl
          have q0 : (decide ((0 : Int) ≤ 0) && decide ((0 : Int) < (([x :: r] : List (List Int)).length : Int))) = true := rfl
          have q1 : decide ((0 : Int) < ((x :: r).length : Int)) = true := by simp
          have v0 : List.getD (x :: r) (Int.toNat 0) 0 = x := rfl
          simp only [l_spec_l7Low_6, r0, q0, cond_true, q1, v0, gg, show decide ((0 : Int) ≤ 0) = true from rfl, Bool.and_self, show IntKind.wrap .i64 (0 + 1) = ((1 : Nat) : Int) from rfl]
          rfl
        have h8 := this (f + 1)
        rw [← hf] at h8
        exact h8
    have : l_spec_l7Low_3 k (f + 2) [o] d d 0 0 K0 = K0 [o] d ((gcdL (o ++ [d]) : Nat) : Int) 0 := by
      have q1 : decide ((0 : Int) < (([o] : List (List Int)).length : Int)) = true := rfl
      have q2 : decide ((1 : Int) < (([o] : List (List Int)).length : Int)) = false := rfl
      simp only [l_spec_l7Low_3, q1, cond_true, h6, show IntKind.wrap .i64 (0 + 1) = 1 from rfl, q2, cond_false]
    rw [← hf] at this
    exact this
  have hrows : ∀ (s e f' : Int) (K0 : Int → List (List Int) → Int → Option R), s ≠ 0 → l_spec_l7Low_13 k k [o] s 0 e [] f' K0 = K0 e [o.map (·.tdiv s)] f' := fun s e f' K0 hs0 => by
    have h17 := low_rows (R := R) (k := k) (e := e) (f' := f') (acc0 := []) hs0 hs (by omega) o.length 0 k [] (by omega) (by omega) (by simp; omega)
    simp only [List.drop_zero, List.nil_append, show ((0 : Nat) : Int) = 0 from rfl] at h17
    have : l_spec_l7Low_13 k (f + 2) [o] s 0 e [] f' K0 = K0 e [o.map (·.tdiv s)] f' := by
      have q1 : decide ((0 : Int) < (([o] : List (List Int)).length : Int)) = true := rfl
      have q2 : decide ((1 : Int) < (([o] : List (List Int)).length : Int)) = false := rfl
      have q3 : (!isNe ([] : List (List Int)) && (true && Nat.ble 1 LIM)) = true := rfl
      simp only [l_spec_l7Low_13, q1, cond_true, h17, q3, show IntKind.wrap .i64 (0 + 1) = 1 from rfl, q2, cond_false]
    rw [← hf] at this
    exact this
  have wd : ∀ s : Int, IntKind.wrap .i64 (d.tdiv s) = d.tdiv s := fun s => wrap_abs (by have := natAbs_tdiv_le d s; omega)
  have wg : IntKind.wrap .i64 (0 - ((gcdL (o ++ [d]) : Nat) : Int)) = -((gcdL (o ++ [d]) : Nat) : Int) := by rw [show 0 - ((gcdL (o ++ [d]) : Nat) : Int) = -((gcdL (o ++ [d]) : Nat) : Int) by omega]; exact wrap_abs (by omega)
  have q3 : ∀ (x : List Int), (decide ((0 : Nat) ≤ 0) && decide ((0 : Int) < (([x] : List (List Int)).length : Int))) = true := fun _ => rfl
  have v0 : ∀ x : List Int, List.getD [x] (Int.toNat 0) [] = x := fun _ => rfl
  by_cases hneg : d < 0
  · have hP : lowP o d = -((gcdL (o ++ [d]) : Nat) : Int) := by unfold lowP; rw [if_pos hneg, Int.neg_one_mul]
    simp only [f_spec_l9Low, f_spec_l7Low, hg, hneg, decide_true, cond_true, wg, show ¬ -((gcdL (o ++ [d]) : Nat) : Int) = 0 by omega, decide_false, Bool.not_false, wd, hrows _ _ _ _ (show -((gcdL (o ++ [d]) : Nat) : Int) ≠ 0 by omega), q3, v0, hP]
  · have hP : lowP o d = ((gcdL (o ++ [d]) : Nat) : Int) := by unfold lowP; rw [if_neg hneg, Int.one_mul]
    simp only [f_spec_l9Low, f_spec_l7Low, hg, hneg, decide_false, cond_false, cond_true, show ¬ ((gcdL (o ++ [d]) : Nat) : Int) = 0 by omega, Bool.not_false, wd, hrows _ _ _ _ (show ((gcdL (o ++ [d]) : Nat) : Int) ≠ 0 by omega), q3, v0, hP]

/- the program's lowering -/
theorem ilow_loop {R : Type} (k : Nat) {row : List Int} {d s : Int} (hs0 : s ≠ 0) (hs : Sz row) (hl : row.length < 1000) : ∀ (j i fuel : Nat) (acc : List Int), i + j = row.length → j < fuel → acc.length + j ≤ 100000 → ∀ K0 : Int → Int → List Int → Option R,
    l_impl_ValueFind_26 k fuel d s row (row.length : Int) (i : Int) acc K0 = K0 d s (acc ++ (row.drop i).map (·.tdiv s))
  | 0, i, fuel, acc, hi, hf, hb, K0 => by
    obtain ⟨f, rfl⟩ : ∃ f, fuel = f + 1 := ⟨fuel - 1, by omega⟩
    have : row.drop i = [] := List.drop_eq_nil_of_le (by omega)
    simp only [l_impl_ValueFind_26, show ¬ (i : Int) < (row.length : Int) by omega, decide_false, cond_false, this, List.map_nil, List.append_nil]
  | j + 1, i, fuel, acc, hi, hf, hb, K0 => by
    obtain ⟨f, rfl⟩ : ∃ f, fuel = f + 1 := ⟨fuel - 1, by omega⟩
    have hil : i < row.length := by omega
    have hx := hs _ (getD_mem hil)
    rw [getD_drop hil]
    generalize ht : row.getD i 0 = t at *
    have hq := natAbs_tdiv_le t s
    have w2 : IntKind.wrap .i64 (t.tdiv s) = t.tdiv s := wrap_abs (by omega)
    have ih := ilow_loop (R := R) k (d := d) hs0 hs hl j (i + 1) f (acc ++ [t.tdiv s]) (by omega) (by omega) (by simp; omega) K0
    simp only [l_impl_ValueFind_26, show (i : Int) < (row.length : Int) by omega, show (0 : Int) ≤ (i : Int) by omega, decide_true, cond_true, Bool.and_self, Int.toNat_natCast, ht, hs0, decide_false, Bool.not_false, w2, ble_lim (show acc.length + 1 ≤ 4294967296 by omega), add_one (show i < 4611686018427387904 by omega)]
    rw [ih, List.append_assoc]
    rfl

theorem ilow_eq {R : Type} {k : Nat} (hk : 2000 ≤ k) {o : List Int} {d : Int} (hs : Sz o) (ho : 1 ≤ o.length) (hl : o.length < 100) (hd : d ≠ 0) (hds : d.natAbs < 9223372036854775808) (K : List Int → Int → Bool → Option R) :
    f_slices_Clone k o (fun r26 => cond (Nat.ble (r26.length + 1) LIM) (f_impl_gcd k (r26 ++ [d]) (fun r27 => cond (decide (d < 0)) (l_impl_ValueFind_26 k k d (IntKind.wrap .i64 (0 - r27)) o (o.length : Int) 0 [] (fun y34 y35 y36 => cond (!decide (y35 = 0)) (K y36 (IntKind.wrap .i64 (Int.tdiv y34 y35)) true) none))
      (l_impl_ValueFind_26 k k d r27 o (o.length : Int) 0 [] (fun y37 y38 y39 => cond (!decide (y38 = 0)) (K y39 (IntKind.wrap .i64 (Int.tdiv y37 y38)) true) none)))) none) = K (o.map (·.tdiv (lowP o d))) (d.tdiv (lowP o d)) true := by
  have hgn := lowP_ne (o := o) hd
  have hsz : Sz (o ++ [d]) := fun x hx => by
    rcases List.mem_append.1 hx with h | h
    · exact hs x h
    · simp at h; subst h; exact hds
  have hsm := gcdL_small hsz
  have wd : ∀ s : Int, IntKind.wrap .i64 (d.tdiv s) = d.tdiv s := fun s => wrap_abs (by have := natAbs_tdiv_le d s; omega)
  have wg : IntKind.wrap .i64 (0 - ((gcdL (o ++ [d]) : Nat) : Int)) = -((gcdL (o ++ [d]) : Nat) : Int) := by rw [show 0 - ((gcdL (o ++ [d]) : Nat) : Int) = -((gcdL (o ++ [d]) : Nat) : Int) by omega]; exact wrap_abs (by omega)
  have hloop : ∀ (s : Int) (K0 : Int → Int → List Int → Option R), s ≠ 0 → l_impl_ValueFind_26 k k d s o (o.length : Int) 0 [] K0 = K0 d s (o.map (·.tdiv s)) := fun s K0 hs0 => by
    have h := ilow_loop (R := R) k (d := d) hs0 hs (by omega) o.length 0 k [] (by omega) (by omega) (by simp; omega) K0
    simp only [List.drop_zero, List.nil_append, show ((0 : Nat) : Int) = 0 from rfl] at h
    exact h
  rw [f_slices_Clone_eq k ho (by omega)]
  simp only [ble_lim (show o.length + 1 ≤ 4294967296 by omega), cond_true, f_impl_gcd_eq (show 200 ≤ k by omega) hsz (show (o ++ [d]).length < 200 by simp; omega)]
  by_cases hneg : d < 0
  · have hP : lowP o d = -((gcdL (o ++ [d]) : Nat) : Int) := by unfold lowP; rw [if_pos hneg, Int.neg_one_mul]
    simp only [hneg, decide_true, cond_true, wg, hloop _ _ (show -((gcdL (o ++ [d]) : Nat) : Int) ≠ 0 by omega), show ¬ -((gcdL (o ++ [d]) : Nat) : Int) = 0 by omega, decide_false, Bool.not_false, wd, hP]
  · have hP : lowP o d = ((gcdL (o ++ [d]) : Nat) : Int) := by unfold lowP; rw [if_neg hneg, Int.one_mul]
    simp only [hneg, decide_false, cond_false, cond_true, hloop _ _ (show ((gcdL (o ++ [d]) : Nat) : Int) ≠ 0 by omega), show ¬ ((gcdL (o ++ [d]) : Nat) : Int) = 0 by omega, Bool.not_false, wd, hP]

end Go.Proofs.Ytmmadcccjicdcaa.E
