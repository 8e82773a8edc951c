/- Primes and valuations of whole numbers. -/
namespace Go.Proofs.Ytmmadcccjicdcaa.E
set_option linter.unusedVariables false

def Pr (p : Int) : Prop := 2 ≤ p ∧ ∀ d : Int, 2 ≤ d → d * d ≤ p → ¬ d ∣ p

theorem Pr.div {p d : Int} (hp : Pr p) (h0 : 0 < d) (h : d ∣ p) : d = 1 ∨ d = p := by
  obtain ⟨e, he⟩ := h
  have h2 := hp.1
  have hepos : 0 < e := by
    rcases Int.lt_or_le 0 e with h | h
    · exact h
    · have := Int.mul_nonneg_of_nonpos_of_nonpos (show -d ≤ 0 by omega) h
      rw [Int.neg_mul] at this
      omega
  by_cases h1 : d = 1
  · exact .inl h1
  by_cases h3 : e = 1
  · subst h3; right; omega
  exfalso
  rcases Int.le_total d e with hle | hle
  · have : d * d ≤ d * e := Int.mul_le_mul_of_nonneg_left hle (by omega)
    exact hp.2 d (by omega) (by omega) ⟨e, he⟩
  · have : e * e ≤ d * e := Int.mul_le_mul_of_nonneg_right hle (by omega)
    exact hp.2 e (by omega) (by omega) ⟨d, by rw [he, Int.mul_comm]⟩

theorem Pr.coprime {p a : Int} (hp : Pr p) (h : ¬ p ∣ a) : Nat.Coprime p.natAbs a.natAbs := by
  have h2 := hp.1
  have hg1 : (Nat.gcd p.natAbs a.natAbs) ∣ p.natAbs := Nat.gcd_dvd_left ..
  have hg2 : (Nat.gcd p.natAbs a.natAbs) ∣ a.natAbs := Nat.gcd_dvd_right ..
  have hpos : 0 < Nat.gcd p.natAbs a.natAbs := Nat.gcd_pos_of_pos_left _ (by omega)
  have : ((Nat.gcd p.natAbs a.natAbs : Nat) : Int) ∣ p := by
    rw [← Int.natAbs_dvd_natAbs]; simpa using hg1
  rcases hp.div (by omega) this with h1 | h1
  · show Nat.gcd _ _ = 1
    omega
  · exfalso
    apply h
    rw [← Int.natAbs_dvd_natAbs]
    have e : p.natAbs = Nat.gcd p.natAbs a.natAbs := by omega
    rw [e]; exact hg2

theorem Pr.dvd_mul {p a b : Int} (hp : Pr p) (h : p ∣ a * b) : p ∣ a ∨ p ∣ b := by
  by_cases ha : p ∣ a
  · exact .inl ha
  · right
    have := Nat.Coprime.dvd_of_dvd_mul_left (hp.coprime ha) (by
      rw [← Int.natAbs_mul, Int.natAbs_dvd_natAbs]; exact h : p.natAbs ∣ a.natAbs * b.natAbs)
    exact Int.natAbs_dvd_natAbs.1 this

/-- Dividing as often as it goes. -/
def spl : Nat → Nat → Int → Int → Nat × Int
  | 0, k, n, p => (k, n)
  | f + 1, k, n, p => if n.tmod p = 0 then spl f (k + 1) (n.tdiv p) p else (k, n)

def val (n p : Int) : Nat := (spl 64 0 n p).1
def unt (n p : Int) : Int := (spl 64 0 n p).2

theorem spl_spec {p : Int} (hp : 2 ≤ p) : ∀ (f k : Nat) (n : Int), n ≠ 0 → n.natAbs < 2 ^ f → ∃ j : Nat, j ≤ f ∧ (spl f k n p).1 = k + j ∧ n = p ^ j * (spl f k n p).2 ∧ ¬ p ∣ (spl f k n p).2 ∧ (spl f k n p).2.natAbs ≤ n.natAbs
  | 0, k, n, h0, hn => by simp at hn; omega
  | f + 1, k, n, h0, hn => by
    unfold spl
    split
    · rename_i h
      have hd : p ∣ n := Int.dvd_of_tmod_eq_zero h
      have he : n.tdiv p * p = n := Int.tdiv_mul_cancel hd
      generalize n.tdiv p = m at he
      subst he
      have hm0 : m ≠ 0 := fun e => by subst e; simp at h0
      have hab : (m * p).natAbs = m.natAbs * p.natAbs := Int.natAbs_mul ..
      have hb : m.natAbs * 2 ≤ m.natAbs * p.natAbs := Nat.mul_le_mul_left _ (by omega)
      obtain ⟨j, hj, h1, h2, h3, h4⟩ := spl_spec hp f (k + 1) m hm0 (by rw [Nat.pow_succ] at hn; omega)
      refine ⟨j + 1, by omega, by rw [h1]; omega, ?_, h3, by omega⟩
      rw [Int.pow_succ]
      generalize (spl f (k + 1) m p).2 = u at *
      rw [h2]
      grind
    · rename_i h
      refine ⟨0, by omega, rfl, by simp, fun hd => h (Int.tmod_eq_zero_of_dvd hd), Nat.le_refl _⟩

theorem val_spec {n p : Int} (hp : 2 ≤ p) (h0 : n ≠ 0) (hn : n.natAbs < 2 ^ 64) : n = p ^ val n p * unt n p ∧ ¬ p ∣ unt n p ∧ val n p ≤ 64 ∧ (unt n p).natAbs ≤ n.natAbs := by
  obtain ⟨j, h1, h2, h3, h4, h5⟩ := spl_spec hp 64 0 n h0 hn
  unfold val unt
  rw [h2]
  simp only [Nat.zero_add] at *
  exact ⟨h3, h4, h1, h5⟩

theorem val_uniq {p : Int} (hp : 2 ≤ p) : ∀ (j k : Nat) (u v : Int), p ^ j * u = p ^ k * v → ¬ p ∣ u → ¬ p ∣ v → j = k ∧ u = v
  | 0, 0, u, v, h, hu, hv => by simpa using h
  | 0, k + 1, u, v, h, hu, hv => by
    exfalso; apply hu
    rw [Int.pow_succ] at h
    exact ⟨p ^ k * v, by grind⟩
  | j + 1, 0, u, v, h, hu, hv => by
    exfalso; apply hv
    rw [Int.pow_succ] at h
    exact ⟨p ^ j * u, by grind⟩
  | j + 1, k + 1, u, v, h, hu, hv => by
    rw [Int.pow_succ, Int.pow_succ] at h
    have h' : p * (p ^ j * u) = p * (p ^ k * v) := by grind
    have := Int.eq_of_mul_eq_mul_left (by omega) h'
    obtain ⟨h1, h2⟩ := val_uniq hp j k u v this hu hv
    exact ⟨by omega, h2⟩

theorem val_eq {n p u : Int} {k : Nat} (hp : 2 ≤ p) (h0 : n ≠ 0) (hn : n.natAbs < 2 ^ 64) (h : n = p ^ k * u) (hu : ¬ p ∣ u) : val n p = k ∧ unt n p = u := by
  obtain ⟨h1, h2, _⟩ := val_spec hp h0 hn
  exact val_uniq hp _ _ _ _ (h1.symm.trans h) h2 hu

theorem val_mul {a b p : Int} (hp : Pr p) (ha : a ≠ 0) (hb : b ≠ 0) (hn : (a * b).natAbs < 2 ^ 64) : val (a * b) p = val a p + val b p ∧ unt (a * b) p = unt a p * unt b p := by
  have h2 := hp.1
  have hab : a * b ≠ 0 := Int.mul_ne_zero ha hb
  have hm : (a * b).natAbs = a.natAbs * b.natAbs := Int.natAbs_mul ..
  have k1 : a.natAbs * 1 ≤ a.natAbs * b.natAbs := Nat.mul_le_mul_left _ (by omega)
  have k2 : 1 * b.natAbs ≤ a.natAbs * b.natAbs := Nat.mul_le_mul_right _ (by omega)
  obtain ⟨h3, h4, _⟩ := val_spec (n := a) h2 ha (by omega)
  obtain ⟨h5, h6, _⟩ := val_spec (n := b) h2 hb (by omega)
  refine val_eq h2 hab hn ?_ fun h => ?_
  · generalize val a p = i at *
    generalize val b p = j at *
    generalize unt a p = u at *
    generalize unt b p = v at *
    subst h3
    subst h5
    rw [Int.pow_add]
    grind
  · rcases hp.dvd_mul h with h | h
    · exact h4 h
    · exact h6 h

end Go.Proofs.Ytmmadcccjicdcaa.E
