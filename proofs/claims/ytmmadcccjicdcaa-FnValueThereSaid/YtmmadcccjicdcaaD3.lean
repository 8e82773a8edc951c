/- Normal terms: what the loop keeps and what comes out. -/
import Derived.Test.YtmmadcccjicdcaaD2
namespace Go.Proofs.Ytmmadcccjicdcaa.E
set_option linter.unusedVariables false
set_option linter.unusedSimpArgs false
set_option maxRecDepth 100000

theorem SqC.mul_left {a b : Int} (h : SqC a b) {a' r : Int} (hr : r ≠ 0) (e : a = a' * (r * r)) : SqC a' b := by
  obtain ⟨x, y, hx, hy, h⟩ := h
  exact ⟨r * x, y, Int.mul_ne_zero hr hx, hy, by subst e; rw [← h]; grind⟩

theorem SqC.symm {a b : Int} (h : SqC a b) : SqC b a := by obtain ⟨x, y, hx, hy, h⟩ := h; exact ⟨y, x, hy, hx, h.symm⟩
theorem SqC.trans {a b c : Int} (h : SqC a b) (h' : SqC b c) : SqC a c := by
  obtain ⟨x, y, hx, hy, h⟩ := h
  obtain ⟨z, w, hz, hw, h'⟩ := h'
  exact ⟨x * z, y * w, Int.mul_ne_zero hx hz, Int.mul_ne_zero hy hw, by grind⟩

structure NI (α β γ a b c u v w : Int) : Prop where
  z : ∀ x y z : Int, a * x * x + b * y * y + c * z * z = 0 → α * (u * x) * (u * x) + β * (v * y) * (v * y) + γ * (w * z) * (w * z) = 0
  na : a ≠ 0
  nb : b ≠ 0
  nc : c ≠ 0
  sa : Sqf a
  sb : Sqf b
  sc : Sqf c
  cab : SqC (a * b) (α * β)
  cac : SqC (a * c) (α * γ)
  cbc : SqC (b * c) (β * γ)
  pu : 0 < u
  pv : 0 < v
  pw : 0 < w
  bnd : (a * b * c).natAbs ≤ 27000
  bu : u * (a * b * c).natAbs ≤ 675000
  bv : v * (a * b * c).natAbs ≤ 675000
  bw : w * (a * b * c).natAbs ≤ 675000

theorem NI.swap12 {α β γ a b c u v w : Int} (h : NI α β γ a b c u v w) : NI β α γ b a c v u w := by
  have e : b * a * c = a * b * c := by grind
  exact ⟨fun x y z hz => by have := h.z y x z (by omega); omega, h.nb, h.na, h.nc, h.sb, h.sa, h.sc, by rw [Int.mul_comm b a, Int.mul_comm β α]; exact h.cab, h.cbc, h.cac, h.pv, h.pu, h.pw, e ▸ h.bnd, e ▸ h.bv, e ▸ h.bu, e ▸ h.bw⟩

theorem NI.swap23 {α β γ a b c u v w : Int} (h : NI α β γ a b c u v w) : NI α γ β a c b u w v := by
  have e : a * c * b = a * b * c := by grind
  exact ⟨fun x y z hz => by have := h.z x z y (by omega); omega, h.na, h.nc, h.nb, h.sa, h.sc, h.sb, h.cac, h.cab, by rw [Int.mul_comm c b, Int.mul_comm γ β]; exact h.cbc, h.pu, h.pw, h.pv, e ▸ h.bnd, e ▸ h.bu, e ▸ h.bw, e ▸ h.bv⟩

theorem le_abs_mul {a b c : Int} (hb : b ≠ 0) (hc : c ≠ 0) : a.natAbs ≤ (a * b * c).natAbs := by
  rw [Int.natAbs_mul, Int.natAbs_mul]
  have h1 : a.natAbs * 1 ≤ a.natAbs * b.natAbs := Nat.mul_le_mul_left _ (by omega)
  have h2 : a.natAbs * b.natAbs * 1 ≤ a.natAbs * b.natAbs * c.natAbs := Nat.mul_le_mul_left _ (by omega)
  omega

theorem NI.abc {α β γ a b c u v w : Int} (h : NI α β γ a b c u v w) : a.natAbs ≤ (a * b * c).natAbs ∧ b.natAbs ≤ (a * b * c).natAbs ∧ c.natAbs ≤ (a * b * c).natAbs := by
  refine ⟨le_abs_mul h.nb h.nc, ?_, ?_⟩
  · have := le_abs_mul (a := b) h.na h.nc
    rwa [show b * a * c = a * b * c by grind] at this
  · have := le_abs_mul (a := c) h.na h.nb
    rwa [show c * a * b = a * b * c by grind] at this

theorem NI.sm3 {α β γ a b c u v w : Int} (h : NI α β γ a b c u v w) : Sm3 a b c := by
  have := h.abc
  have := h.bnd
  exact ⟨⟨h.na, h.nb, h.nc⟩, by omega, by omega, by omega⟩

theorem NI.times {α β γ a b c u v w : Int} (h : NI α β γ a b c u v w) : u ≤ 675000 ∧ v ≤ 675000 ∧ w ≤ 675000 := by
  have h1 := h.abc
  have h2 := h.na
  have key : ∀ {x : Int}, 0 < x → x * (a * b * c).natAbs ≤ 675000 → x ≤ 675000 := fun {x} hx hb => by
    have : x * 1 ≤ x * ((a * b * c).natAbs : Int) := Int.mul_le_mul_of_nonneg_left (by omega) (by omega)
    omega
  exact ⟨key h.pu h.bu, key h.pv h.bv, key h.pw h.bw⟩

theorem sqf_mul_prime {c p : Int} (hp : Pr p) (hc : Sqf c) (hd : ¬ p ∣ c) : Sqf (c * p) := by
  refine sqf_of_primes fun q hq hh => ?_
  have hp2 := hp.1
  have hq2 := hq.1
  by_cases e : q = p
  · subst e
    have : q ∣ c := Int.dvd_of_mul_dvd_mul_right (show q ≠ 0 by omega) hh
    exact hd this
  · have hqp : ¬ q ∣ p := fun h => by
      rcases hp.div (by omega) h with h1 | h1
      · omega
      · exact e h1
    have hco := hq.coprime hqp
    have h2 : (q * q).natAbs ∣ c.natAbs * p.natAbs := by rw [← Int.natAbs_mul]; exact Int.natAbs_dvd_natAbs.2 hh
    rw [Int.natAbs_mul] at h2
    have h3 := (Nat.Coprime.mul_left hco hco).dvd_of_dvd_mul_right h2
    exact hc q hq2 (Int.natAbs_dvd_natAbs.1 (by rw [Int.natAbs_mul]; exact h3))

theorem mul_le_div {u : Int} {m n p : Nat} (hu : 0 < u) (h : u * n ≤ 675000) (e : m ≤ n) : u * m ≤ 675000 := by
  have : u * (m : Int) ≤ u * (n : Int) := Int.mul_le_mul_of_nonneg_left (by omega) (by omega)
  omega

/-- One step: a prime that divides the first two terms. -/
theorem NI.step {α β γ a b c u v w p : Int} (h : NI α β γ a b c u v w) (hp : Pr p) (ha : p ∣ a) (hb : p ∣ b) :
    (c.tmod p = 0 → NI α β γ (a.tdiv p) (b.tdiv p) (c.tdiv p) u v w ∧ 2 * (a.tdiv p * b.tdiv p * c.tdiv p).natAbs ≤ (a * b * c).natAbs) ∧
    (c.tmod p ≠ 0 → NI α β γ (a.tdiv p) (b.tdiv p) (c * p) u v (w * p) ∧ 2 * (a.tdiv p * b.tdiv p * (c * p)).natAbs ≤ (a * b * c).natAbs) := by
  have hp2 := hp.1
  have ea : a.tdiv p * p = a := Int.tdiv_mul_cancel ha
  have eb : b.tdiv p * p = b := Int.tdiv_mul_cancel hb
  generalize a.tdiv p = a' at *
  generalize b.tdiv p = b' at *
  have hp0 : p ≠ 0 := by omega
  have na : a' ≠ 0 := fun e => h.na (by rw [← ea, e]; omega)
  have nb : b' ≠ 0 := fun e => h.nb (by rw [← eb, e]; omega)
  have sa : Sqf a' := sqf_dvd h.sa ⟨p, by omega⟩
  have sb : Sqf b' := sqf_dvd h.sb ⟨p, by omega⟩
  have cab : SqC (a' * b') (α * β) := h.cab.mul_left hp0 (by rw [← ea, ← eb]; grind)
  refine ⟨fun hc => ?_, fun hc => ?_⟩
  · have hcd : p ∣ c := Int.dvd_of_tmod_eq_zero hc
    have ec : c.tdiv p * p = c := Int.tdiv_mul_cancel hcd
    generalize c.tdiv p = c' at *
    have nc : c' ≠ 0 := fun e => h.nc (by rw [← ec, e]; omega)
    have habc : a * b * c = a' * b' * c' * (p * p * p) := by rw [← ea, ← eb, ← ec]; grind
    have hab : (a * b * c).natAbs = (a' * b' * c').natAbs * (p * p * p).natAbs := by rw [habc, Int.natAbs_mul]
    have hp3 : 2 ≤ (p * p * p).natAbs := by
      have h1 : 4 ≤ p * p := by have := sq_le (x := 2) (y := p) (by omega) hp2; omega
      have h2 : 4 * 2 ≤ p * p * p := Int.mul_le_mul h1 hp2 (by omega) (by omega)
      omega
    have hle2 : (a' * b' * c').natAbs * 2 ≤ (a * b * c).natAbs := by rw [hab]; exact Nat.mul_le_mul_left _ hp3
    have hle : (a' * b' * c').natAbs ≤ (a * b * c).natAbs := by omega
    exact ⟨⟨fun x y z hz => h.z x y z (by rw [← ea, ← eb, ← ec]; grind), na, nb, nc, sa, sb, sqf_dvd h.sc ⟨p, by omega⟩, cab, h.cac.mul_left hp0 (by rw [← ea, ← ec]; grind), h.cbc.mul_left hp0 (by rw [← eb, ← ec]; grind),
      h.pu, h.pv, h.pw, Nat.le_trans hle h.bnd, mul_le_div (p := 0) h.pu h.bu hle, mul_le_div (p := 0) h.pv h.bv hle, mul_le_div (p := 0) h.pw h.bw hle⟩, by omega⟩
  · have hcd : ¬ p ∣ c := fun hd => hc (Int.tmod_eq_zero_of_dvd hd)
    have habc : a * b * c = a' * b' * (c * p) * p := by rw [← ea, ← eb]; grind
    have hab : (a * b * c).natAbs = (a' * b' * (c * p)).natAbs * p.natAbs := by rw [habc, Int.natAbs_mul]
    have hle2 : (a' * b' * (c * p)).natAbs * 2 ≤ (a * b * c).natAbs := by rw [hab]; exact Nat.mul_le_mul_left _ (by omega)
    have hle : (a' * b' * (c * p)).natAbs ≤ (a * b * c).natAbs := by omega
    refine ⟨⟨fun x y z hz => ?_, na, nb, Int.mul_ne_zero h.nc hp0, sa, sb, sqf_mul_prime hp h.sc hcd, cab, ?_, ?_,
      h.pu, h.pv, Int.mul_pos h.pw (by omega), Nat.le_trans hle h.bnd, mul_le_div (p := 0) h.pu h.bu hle, mul_le_div (p := 0) h.pv h.bv hle, ?_⟩, by omega⟩
    · have := h.z x y (p * z) (by rw [← ea, ← eb]; grind)
      grind
    · rw [show a' * (c * p) = a * c by rw [← ea]; grind]; exact h.cac
    · rw [show b' * (c * p) = b * c by rw [← eb]; grind]; exact h.cbc
    · have e : ((a * b * c).natAbs : Int) = ((a' * b' * (c * p)).natAbs : Int) * p := by
        rw [hab, Int.natCast_mul]
        have : (p.natAbs : Int) = p := by omega
        rw [this]
      have := h.bw
      rw [e] at this
      grind

/-- What the normal terms are, and that both ways come to them. -/
theorem nrm_ex {R : Type} {k : Nat} (hk : 60000 ≤ k) {α β γ : Int} : ∀ (f : Nat) (a b c u v w : Int), NI α β γ a b c u v w → (a * b * c).natAbs < 2 ^ f →
    ∃ A B C U V W : Int, NI α β γ A B C U V W ∧ (gc A B ≤ 1 ∧ gc A C ≤ 1 ∧ gc B C ≤ 1) ∧
      (∀ fuel, f < fuel → ∀ K : Bool → List Int → List Int → Option R, l_impl_ZeroNormal_12 k fuel [a, b, c] [u, v, w] K = K true [A, B, C] [U, V, W]) ∧
      (∀ fuel, f < fuel → ∀ K : List Int → List Int → Option R, f_spec_l5Two k [a, b, c] (fun p t => l_spec_l5Normal_11 k fuel p t [a, b, c] [u, v, w] K) = K [A, B, C] [U, V, W])
  | 0, a, b, c, u, v, w, h, hf => by
    have := h.abc
    have := h.na
    simp at hf
    omega
  | f + 1, a, b, c, u, v, w, h, hf => by
    have hs := h.sm3
    have ht := h.times
    obtain ⟨ab1, ab2, ab3⟩ := h.abc
    have hbd := h.bnd
    have l1 := gc_le (b := b) h.na
    have l2 := gc_le (b := c) h.na
    have l3 := gc_le (b := c) h.nb
    have w0 : ∀ x : Int, x.natAbs ≤ 100000000000 → IntKind.wrap .i64 x = x := fun x hx => wrap_abs (by omega)
    have hw : ∀ {x : Int} (p : Int), x.natAbs ≤ 27000 → IntKind.wrap .i64 (x.tdiv p) = x.tdiv p := fun {x} p hx => wrap_abs (by have := natAbs_tdiv_le x p; omega)
    by_cases c1 : 1 < gc a b
    · obtain ⟨hp, hd, _⟩ := lp_spec c1 (by omega)
      obtain ⟨da, db⟩ := gc_dvd hd
      generalize hpp : lp (gc a b) = p at *
      have hp2 := hp.1
      obtain ⟨s1, s2⟩ := h.step hp da db
      by_cases hc : c.tmod p = 0
      · obtain ⟨s3, s4⟩ := s1 hc
        obtain ⟨A, B, C, U, V, W, g1, g2, g3, g4⟩ := nrm_ex (R := R) hk f _ _ _ _ _ _ s3 (by rw [Nat.pow_succ] at hf; omega)
        refine ⟨A, B, C, U, V, W, g1, g2, fun fuel hfu K => ?_, fun fuel hfu K => ?_⟩
        · obtain ⟨n, rfl⟩ : ∃ n, fuel = n + 1 := ⟨fuel - 1, by omega⟩
          rw [← g3 n (by omega) K]
          simp [l_impl_ZeroNormal_12, f_impl_sharedPrime_eq hk hs, c1, hpp, show ¬ p = 0 by omega, hw p (show a.natAbs ≤ 27000 by omega), hw p (show b.natAbs ≤ 27000 by omega), hw p (show c.natAbs ≤ 27000 by omega), hc, show IntKind.wrap .i64 3 = 3 by decide, show IntKind.wrap .i64 2 = 2 by decide]
        · obtain ⟨n, rfl⟩ : ∃ n, fuel = n + 1 := ⟨fuel - 1, by omega⟩
          rw [← g4 n (by omega) K, f_spec_l5Two_eq hk hs, if_pos c1]
          simp [l_spec_l5Normal_11, hpp, show 1 < p by omega, show ¬ p = 0 by omega, hw p (show a.natAbs ≤ 27000 by omega), hw p (show b.natAbs ≤ 27000 by omega), hw p (show c.natAbs ≤ 27000 by omega), hc, show IntKind.wrap .i64 3 = 3 by decide, show IntKind.wrap .i64 4 = 4 by decide]
      · obtain ⟨s3, s4⟩ := s2 hc
        have ht2 := s3.times
        have hcp : IntKind.wrap .i64 (c * p) = c * p := w0 _ (by have := s3.abc; have := s3.bnd; omega)
        have hwp : IntKind.wrap .i64 (w * p) = w * p := w0 _ (by have := s3.pw; omega)
        obtain ⟨A, B, C, U, V, W, g1, g2, g3, g4⟩ := nrm_ex (R := R) hk f _ _ _ _ _ _ s3 (by rw [Nat.pow_succ] at hf; omega)
        refine ⟨A, B, C, U, V, W, g1, g2, fun fuel hfu K => ?_, fun fuel hfu K => ?_⟩
        · obtain ⟨n, rfl⟩ : ∃ n, fuel = n + 1 := ⟨fuel - 1, by omega⟩
          rw [← g3 n (by omega) K]
          simp [l_impl_ZeroNormal_12, f_impl_sharedPrime_eq hk hs, c1, hpp, show ¬ p = 0 by omega, hw p (show a.natAbs ≤ 27000 by omega), hw p (show b.natAbs ≤ 27000 by omega), hcp, hwp, hc, show IntKind.wrap .i64 3 = 3 by decide, show IntKind.wrap .i64 2 = 2 by decide]
        · obtain ⟨n, rfl⟩ : ∃ n, fuel = n + 1 := ⟨fuel - 1, by omega⟩
          rw [← g4 n (by omega) K, f_spec_l5Two_eq hk hs, if_pos c1]
          simp [l_spec_l5Normal_11, hpp, show 1 < p by omega, show ¬ p = 0 by omega, hw p (show a.natAbs ≤ 27000 by omega), hw p (show b.natAbs ≤ 27000 by omega), hcp, hwp, hc, show IntKind.wrap .i64 3 = 3 by decide, show IntKind.wrap .i64 4 = 4 by decide]
    · by_cases c2 : 1 < gc a c
      · obtain ⟨hp, hd, _⟩ := lp_spec c2 (by omega)
        obtain ⟨da, db⟩ := gc_dvd hd
        generalize hpp : lp (gc a c) = p at *
        have hp2 := hp.1
        obtain ⟨s1, s2⟩ := h.swap23.step hp da db
        by_cases hc : b.tmod p = 0
        · obtain ⟨s3, s4⟩ := s1 hc
          replace s3 := s3.swap23
          obtain ⟨A, B, C, U, V, W, g1, g2, g3, g4⟩ := nrm_ex (R := R) hk f _ _ _ _ _ _ s3 (by
            rw [Nat.pow_succ] at hf
            rw [show a.tdiv p * b.tdiv p * c.tdiv p = a.tdiv p * c.tdiv p * b.tdiv p by grind]
            rw [show a * c * b = a * b * c by grind] at s4
            omega)
          refine ⟨A, B, C, U, V, W, g1, g2, fun fuel hfu K => ?_, fun fuel hfu K => ?_⟩
          · obtain ⟨n, rfl⟩ : ∃ n, fuel = n + 1 := ⟨fuel - 1, by omega⟩
            rw [← g3 n (by omega) K]
            simp [l_impl_ZeroNormal_12, f_impl_sharedPrime_eq hk hs, c1, c2, hpp, show ¬ p = 0 by omega, hw p (show a.natAbs ≤ 27000 by omega), hw p (show b.natAbs ≤ 27000 by omega), hw p (show c.natAbs ≤ 27000 by omega), hc, show IntKind.wrap .i64 3 = 3 by decide, show IntKind.wrap .i64 1 = 1 by decide]
          · obtain ⟨n, rfl⟩ : ∃ n, fuel = n + 1 := ⟨fuel - 1, by omega⟩
            rw [← g4 n (by omega) K, f_spec_l5Two_eq hk hs, if_neg c1, if_pos c2]
            simp [l_spec_l5Normal_11, hpp, show 1 < p by omega, show ¬ p = 0 by omega, hw p (show a.natAbs ≤ 27000 by omega), hw p (show b.natAbs ≤ 27000 by omega), hw p (show c.natAbs ≤ 27000 by omega), hc, show IntKind.wrap .i64 3 = 3 by decide, show IntKind.wrap .i64 2 = 2 by decide]
        · obtain ⟨s3, s4⟩ := s2 hc
          replace s3 := s3.swap23
          have ht2 := s3.times
          have hcp : IntKind.wrap .i64 (b * p) = b * p := w0 _ (by have := s3.abc; have := s3.bnd; omega)
          have hwp : IntKind.wrap .i64 (v * p) = v * p := w0 _ (by have := s3.pv; omega)
          obtain ⟨A, B, C, U, V, W, g1, g2, g3, g4⟩ := nrm_ex (R := R) hk f _ _ _ _ _ _ s3 (by
            rw [Nat.pow_succ] at hf
            rw [show a.tdiv p * (b * p) * c.tdiv p = a.tdiv p * c.tdiv p * (b * p) by grind]
            rw [show a * c * b = a * b * c by grind] at s4
            omega)
          refine ⟨A, B, C, U, V, W, g1, g2, fun fuel hfu K => ?_, fun fuel hfu K => ?_⟩
          · obtain ⟨n, rfl⟩ : ∃ n, fuel = n + 1 := ⟨fuel - 1, by omega⟩
            rw [← g3 n (by omega) K]
            simp [l_impl_ZeroNormal_12, f_impl_sharedPrime_eq hk hs, c1, c2, hpp, show ¬ p = 0 by omega, hw p (show a.natAbs ≤ 27000 by omega), hw p (show c.natAbs ≤ 27000 by omega), hcp, hwp, hc, show IntKind.wrap .i64 3 = 3 by decide, show IntKind.wrap .i64 1 = 1 by decide]
          · obtain ⟨n, rfl⟩ : ∃ n, fuel = n + 1 := ⟨fuel - 1, by omega⟩
            rw [← g4 n (by omega) K, f_spec_l5Two_eq hk hs, if_neg c1, if_pos c2]
            simp [l_spec_l5Normal_11, hpp, show 1 < p by omega, show ¬ p = 0 by omega, hw p (show a.natAbs ≤ 27000 by omega), hw p (show c.natAbs ≤ 27000 by omega), hcp, hwp, hc, show IntKind.wrap .i64 3 = 3 by decide, show IntKind.wrap .i64 2 = 2 by decide]
      · by_cases c3 : 1 < gc b c
        · obtain ⟨hp, hd, _⟩ := lp_spec c3 (by omega)
          obtain ⟨da, db⟩ := gc_dvd hd
          generalize hpp : lp (gc b c) = p at *
          have hp2 := hp.1
          obtain ⟨s1, s2⟩ := h.swap12.swap23.step hp da db
          by_cases hc : a.tmod p = 0
          · obtain ⟨s3, s4⟩ := s1 hc
            replace s3 := s3.swap23.swap12
            obtain ⟨A, B, C, U, V, W, g1, g2, g3, g4⟩ := nrm_ex (R := R) hk f _ _ _ _ _ _ s3 (by
              rw [Nat.pow_succ] at hf
              rw [show a.tdiv p * b.tdiv p * c.tdiv p = b.tdiv p * c.tdiv p * a.tdiv p by grind]
              rw [show b * c * a = a * b * c by grind] at s4
              omega)
            refine ⟨A, B, C, U, V, W, g1, g2, fun fuel hfu K => ?_, fun fuel hfu K => ?_⟩
            · obtain ⟨n, rfl⟩ : ∃ n, fuel = n + 1 := ⟨fuel - 1, by omega⟩
              rw [← g3 n (by omega) K]
              simp [l_impl_ZeroNormal_12, f_impl_sharedPrime_eq hk hs, c1, c2, c3, hpp, show ¬ p = 0 by omega, hw p (show a.natAbs ≤ 27000 by omega), hw p (show b.natAbs ≤ 27000 by omega), hw p (show c.natAbs ≤ 27000 by omega), hc, show IntKind.wrap .i64 2 = 2 by decide, show IntKind.wrap .i64 0 = 0 by decide]
            · obtain ⟨n, rfl⟩ : ∃ n, fuel = n + 1 := ⟨fuel - 1, by omega⟩
              rw [← g4 n (by omega) K, f_spec_l5Two_eq hk hs, if_neg c1, if_neg c2, if_pos c3]
              simp [l_spec_l5Normal_11, hpp, show 1 < p by omega, show ¬ p = 0 by omega, hw p (show a.natAbs ≤ 27000 by omega), hw p (show b.natAbs ≤ 27000 by omega), hw p (show c.natAbs ≤ 27000 by omega), hc, show IntKind.wrap .i64 1 = 1 by decide, show IntKind.wrap .i64 2 = 2 by decide]
          · obtain ⟨s3, s4⟩ := s2 hc
            replace s3 := s3.swap23.swap12
            have ht2 := s3.times
            have hcp : IntKind.wrap .i64 (a * p) = a * p := w0 _ (by have := s3.abc; have := s3.bnd; omega)
            have hwp : IntKind.wrap .i64 (u * p) = u * p := w0 _ (by have := s3.pu; omega)
            obtain ⟨A, B, C, U, V, W, g1, g2, g3, g4⟩ := nrm_ex (R := R) hk f _ _ _ _ _ _ s3 (by
              rw [Nat.pow_succ] at hf
              rw [show a * p * b.tdiv p * c.tdiv p = b.tdiv p * c.tdiv p * (a * p) by grind]
              rw [show b * c * a = a * b * c by grind] at s4
              omega)
            refine ⟨A, B, C, U, V, W, g1, g2, fun fuel hfu K => ?_, fun fuel hfu K => ?_⟩
            · obtain ⟨n, rfl⟩ : ∃ n, fuel = n + 1 := ⟨fuel - 1, by omega⟩
              rw [← g3 n (by omega) K]
              simp [l_impl_ZeroNormal_12, f_impl_sharedPrime_eq hk hs, c1, c2, c3, hpp, show ¬ p = 0 by omega, hw p (show b.natAbs ≤ 27000 by omega), hw p (show c.natAbs ≤ 27000 by omega), hcp, hwp, hc, show IntKind.wrap .i64 2 = 2 by decide, show IntKind.wrap .i64 0 = 0 by decide]
            · obtain ⟨n, rfl⟩ : ∃ n, fuel = n + 1 := ⟨fuel - 1, by omega⟩
              rw [← g4 n (by omega) K, f_spec_l5Two_eq hk hs, if_neg c1, if_neg c2, if_pos c3]
              simp [l_spec_l5Normal_11, hpp, show 1 < p by omega, show ¬ p = 0 by omega, hw p (show b.natAbs ≤ 27000 by omega), hw p (show c.natAbs ≤ 27000 by omega), hcp, hwp, hc, show IntKind.wrap .i64 1 = 1 by decide, show IntKind.wrap .i64 2 = 2 by decide]
        · refine ⟨a, b, c, u, v, w, h, ⟨by omega, by omega, by omega⟩, fun fuel hfu K => ?_, fun fuel hfu K => ?_⟩
          · obtain ⟨n, rfl⟩ : ∃ n, fuel = n + 1 := ⟨fuel - 1, by omega⟩
            simp [l_impl_ZeroNormal_12, f_impl_sharedPrime_eq hk hs, c1, c2, c3]
          · obtain ⟨n, rfl⟩ : ∃ n, fuel = n + 1 := ⟨fuel - 1, by omega⟩
            rw [f_spec_l5Two_eq hk hs, if_neg c1, if_neg c2, if_neg c3]
            simp [l_spec_l5Normal_11]

end Go.Proofs.Ytmmadcccjicdcaa.E
