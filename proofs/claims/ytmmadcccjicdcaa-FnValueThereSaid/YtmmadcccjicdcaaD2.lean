/- Normal terms: the program's way and the reference's. -/
import Derived.Test.YtmmadcccjicdcaaD1
namespace Go.Proofs.Ytmmadcccjicdcaa.E
set_option linter.unusedVariables false
set_option linter.unusedSimpArgs false
set_option maxRecDepth 100000

/-- The least prime of a number. -/
def lp (g : Nat) : Int := (primesL g).getD 0 0

theorem lp_spec {g : Nat} (h : 1 < g) (hg : g ≤ 25000000) : Pr (lp g) ∧ lp g ∣ (g : Int) ∧ 0 < (primesL g).length := by
  obtain ⟨hm, _⟩ := primesL_spec (n := (g : Int)) (by omega) (by omega)
  obtain ⟨p, hp, hd⟩ := prime_of (n := (g : Int)) (by omega)
  have hpm := (hm p).2 ⟨hp, hd⟩
  have hl : 0 < (primesL g).length := List.length_pos_of_mem hpm
  have := (hm (lp g)).1 (getD_mem hl)
  exact ⟨this.1, this.2, hl⟩

def gc (a b : Int) : Nat := Nat.gcd a.natAbs b.natAbs

theorem gc_le {a b : Int} (h : a ≠ 0) : gc a b ≤ a.natAbs := Nat.le_of_dvd (by omega) (Nat.gcd_dvd_left _ _)
theorem gc_comm (a b : Int) : gc a b = gc b a := Nat.gcd_comm ..
theorem gc_dvd {a b p : Int} (h : p ∣ (gc a b : Int)) : p ∣ a ∧ p ∣ b := by
  have h1 : ((gc a b : Nat) : Int) ∣ a := Int.natAbs_dvd_natAbs.1 (by simpa [gc] using Nat.gcd_dvd_left a.natAbs b.natAbs)
  have h2 : ((gc a b : Nat) : Int) ∣ b := Int.natAbs_dvd_natAbs.1 (by simpa [gc] using Nat.gcd_dvd_right a.natAbs b.natAbs)
  exact ⟨Int.dvd_trans h h1, Int.dvd_trans h h2⟩

theorem gcdL_pair (a b : Int) : gcdL [a, b] = gc a b := by
  show Nat.gcd (Nat.gcd 0 a.natAbs) b.natAbs = _
  rw [Nat.gcd_zero_left]
  rfl

def Sm3 (a b c : Int) : Prop := (a ≠ 0 ∧ b ≠ 0 ∧ c ≠ 0) ∧ a.natAbs ≤ 27000 ∧ b.natAbs ≤ 27000 ∧ c.natAbs ≤ 27000

theorem f_impl_sharedPrime_eq {R : Type} {k : Nat} (hk : 60000 ≤ k) {a b c : Int} (h : Sm3 a b c) (K : Int → Int → Int → Option R) :
    f_impl_sharedPrime k [a, b, c] K = if 1 < gc a b then K 0 1 (lp (gc a b)) else if 1 < gc a c then K 0 2 (lp (gc a c)) else if 1 < gc b c then K 1 2 (lp (gc b c)) else K 0 0 0 := by
  obtain ⟨⟨ha, hb, hc⟩, h1, h2, h3⟩ := h
  obtain ⟨f, rfl⟩ : ∃ f, k = f + 4 := ⟨k - 4, by omega⟩
  have g1 : ∀ K : Int → Option R, f_impl_gcd (f + 4) [a, b] K = K (gc a b : Nat) := fun K => by rw [f_impl_gcd_eq (by omega) (fun x hx => by simp at hx; omega) (by simp), gcdL_pair]
  have g2 : ∀ K : Int → Option R, f_impl_gcd (f + 4) [a, c] K = K (gc a c : Nat) := fun K => by rw [f_impl_gcd_eq (by omega) (fun x hx => by simp at hx; omega) (by simp), gcdL_pair]
  have g3 : ∀ K : Int → Option R, f_impl_gcd (f + 4) [b, c] K = K (gc b c : Nat) := fun K => by rw [f_impl_gcd_eq (by omega) (fun x hx => by simp at hx; omega) (by simp), gcdL_pair]
  have l1 := gc_le (b := b) ha
  have l2 := gc_le (b := c) ha
  have l3 := gc_le (b := c) hb
  have p1 : ∀ {g : Nat}, 1 < g → g ≤ 27000 → ∀ K : List Int → Option R, f_impl_primesOf (f + 4) (g : Int) K = K (primesL g) := fun h1 h2 K => f_impl_primesOf_eq (by omega) (by omega) (by omega) K
  by_cases c1 : 1 < gc a b
  · have hlp := lp_spec c1 (by omega)
    have hlp' : 0 < ((primesL (gc a b)).length : Int) := by have := hlp.2.2; omega
    simp [f_impl_sharedPrime, l_impl_sharedPrime_2, g1, c1, p1 c1 (by omega), hlp.2.2, lp, hlp', show (1 : Int) < (gc a b : Int) by omega]
  · rw [if_neg c1]
    by_cases c2 : 1 < gc a c
    · have hlp := lp_spec c2 (by omega)
      have hlp' : 0 < ((primesL (gc a c)).length : Int) := by have := hlp.2.2; omega
      simp [f_impl_sharedPrime, l_impl_sharedPrime_2, g1, g2, c1, c2, p1 c2 (by omega), hlp.2.2, lp, hlp', show ¬ (1 : Int) < (gc a b : Int) by omega, show (1 : Int) < (gc a c : Int) by omega, show IntKind.wrap .i64 1 = 1 by decide]
    · rw [if_neg c2]
      by_cases c3 : 1 < gc b c
      · have hlp := lp_spec c3 (by omega)
        have hlp' : 0 < ((primesL (gc b c)).length : Int) := by have := hlp.2.2; omega
        simp [f_impl_sharedPrime, l_impl_sharedPrime_2, g1, g2, g3, c1, c2, c3, p1 c3 (by omega), hlp.2.2, lp, hlp', show ¬ (1 : Int) < (gc a b : Int) by omega, show ¬ (1 : Int) < (gc a c : Int) by omega, show (1 : Int) < (gc b c : Int) by omega, show IntKind.wrap .i64 1 = 1 by decide, show IntKind.wrap .i64 2 = 2 by decide]
      · simp [f_impl_sharedPrime, l_impl_sharedPrime_2, g1, g2, g3, c1, c2, c3, show ¬ (1 : Int) < (gc a b : Int) by omega, show ¬ (1 : Int) < (gc a c : Int) by omega, show ¬ (1 : Int) < (gc b c : Int) by omega, show IntKind.wrap .i64 1 = 1 by decide, show IntKind.wrap .i64 2 = 2 by decide, show IntKind.wrap .i64 3 = 3 by decide]

theorem f_spec_l5Two_eq {R : Type} {k : Nat} (hk : 60000 ≤ k) {a b c : Int} (h : Sm3 a b c) (K : Int → Int → Option R) :
    f_spec_l5Two k [a, b, c] K = if 1 < gc a b then K (lp (gc a b)) 2 else if 1 < gc a c then K (lp (gc a c)) 1 else if 1 < gc b c then K (lp (gc b c)) 0 else K 1 0 := by
  obtain ⟨⟨ha, hb, hc⟩, h1, h2, h3⟩ := h
  obtain ⟨f, rfl⟩ : ∃ f, k = f + 4 := ⟨k - 4, by omega⟩
  have g1 : ∀ K : Int → Option R, f_spec_l1Gcd (f + 4) a b K = K (gc a b : Nat) := fun K => f_spec_l1Gcd_eq (by omega) (by omega) (by omega) K
  have g2 : ∀ K : Int → Option R, f_spec_l1Gcd (f + 4) c a K = K (gc a c : Nat) := fun K => by rw [gc_comm]; exact f_spec_l1Gcd_eq (by omega) (by omega) (by omega) K
  have g3 : ∀ K : Int → Option R, f_spec_l1Gcd (f + 4) b c K = K (gc b c : Nat) := fun K => f_spec_l1Gcd_eq (by omega) (by omega) (by omega) K
  have l1 := gc_le (b := b) ha
  have l2 := gc_le (b := c) ha
  have l3 := gc_le (b := c) hb
  have p1 : ∀ {g : Nat}, 1 < g → g ≤ 27000 → ∀ K : List Int → Option R, f_spec_l1Primes (f + 4) (g : Int) K = K (primesL g) := fun h1 h2 K => f_spec_l1Primes_eq (by omega) (by omega) (by omega) K
  have ws : IntKind.wrap .i64 4 = 4 ∧ IntKind.wrap .i64 3 = 3 ∧ IntKind.wrap .i64 2 = 2 ∧ IntKind.wrap .i64 1 = 1 ∧ IntKind.wrap .i64 0 = 0 ∧ IntKind.wrap .i64 (-1) = -1 := by decide
  obtain ⟨w4, w3, w2, w1, w0, wm⟩ := ws
  by_cases c1 : 1 < gc a b
  · have hlp := lp_spec c1 (by omega)
    have hlp' : 0 < ((primesL (gc a b)).length : Int) := by have := hlp.2.2; omega
    simp [f_spec_l5Two, l_spec_l5Two_2, w4, w3, w2, w1, w0, wm, g1, c1, p1 c1 (by omega), hlp.2.2, lp, hlp', show (1 : Int) < (gc a b : Int) by omega]
  · rw [if_neg c1]
    by_cases c2 : 1 < gc a c
    · have hlp := lp_spec c2 (by omega)
      have hlp' : 0 < ((primesL (gc a c)).length : Int) := by have := hlp.2.2; omega
      simp [f_spec_l5Two, l_spec_l5Two_2, w4, w3, w2, w1, w0, wm, g1, g2, c1, c2, p1 c2 (by omega), hlp.2.2, lp, hlp', show ¬ (1 : Int) < (gc a b : Int) by omega, show (1 : Int) < (gc a c : Int) by omega]
    · rw [if_neg c2]
      by_cases c3 : 1 < gc b c
      · have hlp := lp_spec c3 (by omega)
        have hlp' : 0 < ((primesL (gc b c)).length : Int) := by have := hlp.2.2; omega
        simp [f_spec_l5Two, l_spec_l5Two_2, w4, w3, w2, w1, w0, wm, g1, g2, g3, c1, c2, c3, p1 c3 (by omega), hlp.2.2, lp, hlp', show ¬ (1 : Int) < (gc a b : Int) by omega, show ¬ (1 : Int) < (gc a c : Int) by omega, show (1 : Int) < (gc b c : Int) by omega]
      · simp [f_spec_l5Two, l_spec_l5Two_2, w4, w3, w2, w1, w0, wm, g1, g2, g3, c1, c2, c3, show ¬ (1 : Int) < (gc a b : Int) by omega, show ¬ (1 : Int) < (gc a c : Int) by omega, show ¬ (1 : Int) < (gc b c : Int) by omega]

end Go.Proofs.Ytmmadcccjicdcaa.E
