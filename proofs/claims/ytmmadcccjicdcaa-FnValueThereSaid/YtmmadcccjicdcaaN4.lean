/- The core of an integer and its root part, in plain Lean: what they are, and that there is but one. -/
import Derived.Test.YtmmadcccjicdcaaN3
namespace Go.Proofs.Ytmmadcccjicdcaa.E
set_option linter.unusedVariables false

/-- No square but 1 divides it. -/
def Sqf (c : Int) : Prop := ∀ d : Int, 2 ≤ d → ¬ d * d ∣ c

theorem Sqf.ne {c : Int} (h : Sqf c) : c ≠ 0 := fun e => h 2 (by decide) (e ▸ Int.dvd_zero _)

theorem sqf_dvd {c d : Int} (h : Sqf c) (hd : d ∣ c) : Sqf d := fun e he hh => h e he (Int.dvd_trans hh hd)

theorem sqf_neg {c : Int} (h : Sqf c) : Sqf (-c) := fun d hd hh => h d hd (by have := Int.dvd_neg.2 hh; rwa [Int.neg_neg] at this)

theorem nat_root_one {c d r s : Nat} (hd : ∀ e : Nat, 2 ≤ e → ¬ e * e ∣ d) (hr : 0 < r) (hs : 0 < s) (h : c * (r * r) = d * (s * s)) : r ∣ s := by
  -- r / gcd squared divides d
  have hg : 0 < Nat.gcd r s := Nat.gcd_pos_of_pos_left _ hr
  obtain ⟨r', hr'⟩ := Nat.gcd_dvd_left r s
  obtain ⟨s', hs'⟩ := Nat.gcd_dvd_right r s
  generalize hgg : Nat.gcd r s = g at *
  have hco : Nat.Coprime r' s' := by
    have := Nat.coprime_div_gcd_div_gcd (m := r) (n := s) (by rw [hgg]; exact hg)
    rw [hgg, hr', hs', Nat.mul_div_cancel_left _ hg, Nat.mul_div_cancel_left _ hg] at this
    exact this
  have h2 : c * (r' * r') = d * (s' * s') := by
    have : (g * g) * (c * (r' * r')) = (g * g) * (d * (s' * s')) := by
      rw [hr', hs'] at h
      grind
    exact Nat.eq_of_mul_eq_mul_left (Nat.mul_pos hg hg) this
  have h3 : r' * r' ∣ d := by
    have h4 : r' * r' ∣ d * (s' * s') := ⟨c, by rw [← h2, Nat.mul_comm]⟩
    have hco2 : Nat.Coprime (r' * r') (s' * s') := Nat.Coprime.mul_left (Nat.Coprime.mul_right hco hco) (Nat.Coprime.mul_right hco hco)
    exact hco2.dvd_of_dvd_mul_right h4
  have h5 : r' = 1 := by
    have hr0 : 0 < r' := Nat.pos_of_ne_zero fun e => by rw [e] at hr'; omega
    rcases Nat.lt_or_ge r' 2 with h | h
    · omega
    · exact absurd h3 (hd r' h)
  rw [hr', h5, Nat.mul_one]
  exact ⟨s', hs'⟩

theorem sqf_nat {c : Int} (h : Sqf c) : ∀ e : Nat, 2 ≤ e → ¬ e * e ∣ c.natAbs := fun e he hh => h e (by omega) (Int.natAbs_dvd_natAbs.1 (by
  rw [Int.natAbs_mul]
  simpa using hh))

structure IsCore (n c r : Int) : Prop where
  eq : n = c * (r * r)
  pos : 0 < r
  sqf : Sqf c

theorem core_uniq {c d r s : Int} (hc : Sqf c) (hd : Sqf d) (hr : 0 < r) (hs : 0 < s) (h : c * (r * r) = d * (s * s)) : c = d ∧ r = s := by
  have hn : c.natAbs * (r.natAbs * r.natAbs) = d.natAbs * (s.natAbs * s.natAbs) := by
    have := congrArg Int.natAbs h
    simpa [Int.natAbs_mul] using this
  have h1 : r.natAbs ∣ s.natAbs := nat_root_one (sqf_nat hd) (by omega) (by omega) hn
  have h2 : s.natAbs ∣ r.natAbs := nat_root_one (sqf_nat hc) (by omega) (by omega) hn.symm
  have h3 : r = s := by have := Nat.dvd_antisymm h1 h2; omega
  refine ⟨?_, h3⟩
  rw [h3] at h
  exact Int.eq_of_mul_eq_mul_right (by have : 0 < s * s := Int.mul_pos hs hs; omega) h

def rtS (n : Nat) : Nat → Nat
  | 0 => 1
  | r + 1 => if (r + 1) * (r + 1) ∣ n then r + 1 else rtS n r

theorem rtS_spec (n : Nat) : ∀ k, 1 ≤ rtS n k ∧ rtS n k * rtS n k ∣ n ∧ ∀ e, e ≤ k → 1 ≤ e → e * e ∣ n → e ≤ rtS n k
  | 0 => ⟨by simp [rtS], by simp [rtS], fun e h1 h2 => by omega⟩
  | r + 1 => by
    unfold rtS
    split
    · rename_i h
      exact ⟨by omega, h, fun e h1 _ _ => h1⟩
    · rename_i h
      obtain ⟨h1, h2, h3⟩ := rtS_spec n r
      refine ⟨h1, h2, fun e he he1 hd => ?_⟩
      rcases Nat.lt_or_ge e (r + 1) with hlt | hge
      · exact h3 e (by omega) he1 hd
      · have : e = r + 1 := by omega
        subst this
        exact absurd hd h

/-- The root part, and the core. -/
def rt (n : Int) : Int := (rtS n.natAbs n.natAbs : Nat)
def cor (n : Int) : Int := n / (rt n * rt n)

theorem cor_spec {n : Int} (h0 : n ≠ 0) : IsCore n (cor n) (rt n) := by
  obtain ⟨h1, h2, h3⟩ := rtS_spec n.natAbs n.natAbs
  have hpos : 0 < rt n := by unfold rt; omega
  have hd : rt n * rt n ∣ n := by
    apply Int.natAbs_dvd_natAbs.1
    unfold rt
    simpa [Int.natAbs_mul] using h2
  have heq : n = cor n * (rt n * rt n) := by
    unfold cor
    rw [Int.ediv_mul_cancel hd]
  refine ⟨heq, hpos, fun d hd2 hdd => ?_⟩
  obtain ⟨e, he⟩ := hdd
  have hdr : (d * rt n) * (d * rt n) ∣ n := ⟨e, by rw [heq, he]; grind⟩
  have hdr0 : 0 < d * rt n := Int.mul_pos (by omega) hpos
  have hnat : (d * rt n).natAbs * (d * rt n).natAbs ∣ n.natAbs := by
    rw [← Int.natAbs_mul]
    exact Int.natAbs_dvd_natAbs.2 hdr
  have hle : (d * rt n).natAbs ≤ n.natAbs := by
    have h4 := Nat.le_of_dvd (by omega) hnat
    have h5 : (d * rt n).natAbs * 1 ≤ (d * rt n).natAbs * (d * rt n).natAbs := Nat.mul_le_mul_left _ (by omega)
    omega
  have h6 := h3 _ hle (by omega) hnat
  have h7 : 2 * rt n ≤ d * rt n := Int.mul_le_mul_of_nonneg_right hd2 (by omega)
  have h8 : ((rtS n.natAbs n.natAbs : Nat) : Int) = rt n := rfl
  omega

theorem core_eq {n c r : Int} (h : IsCore n c r) : c = cor n ∧ r = rt n := by
  have h0 : n ≠ 0 := fun e => by
    have h1 := h.eq
    have h2 := h.sqf.ne
    have h3 := h.pos
    rw [e] at h1
    have : c * (r * r) ≠ 0 := Int.mul_ne_zero h2 (Int.mul_ne_zero (by omega) (by omega))
    exact this h1.symm
  have h1 := cor_spec h0
  exact core_uniq h.sqf h1.sqf h.pos h1.pos (h.eq.symm.trans h1.eq)

theorem rt_pos {n : Int} (h0 : n ≠ 0) : 0 < rt n := (cor_spec h0).pos

theorem cor_sqf {c : Int} (h : Sqf c) : cor c = c ∧ rt c = 1 := by
  have := core_eq (n := c) (c := c) (r := 1) ⟨by omega, by decide, h⟩
  exact ⟨this.1.symm, this.2.symm⟩

theorem rt_le {n : Int} (h0 : n ≠ 0) : rt n * rt n ≤ (n.natAbs : Nat) ∧ (cor n).natAbs ≤ n.natAbs := by
  have h := cor_spec h0
  have h1 : n.natAbs = (cor n).natAbs * ((rt n).natAbs * (rt n).natAbs) := by
    have := congrArg Int.natAbs h.eq
    simpa [Int.natAbs_mul] using this
  have h2 : 1 ≤ (cor n).natAbs := by have := h.sqf.ne; omega
  have h3 : 1 ≤ (rt n).natAbs * (rt n).natAbs := by
    have h4 : 1 ≤ (rt n).natAbs := by have := h.pos; omega
    exact Nat.mul_le_mul h4 h4
  have h5 : 1 * ((rt n).natAbs * (rt n).natAbs) ≤ (cor n).natAbs * ((rt n).natAbs * (rt n).natAbs) := Nat.mul_le_mul_right _ h2
  have h6 : (cor n).natAbs * 1 ≤ (cor n).natAbs * ((rt n).natAbs * (rt n).natAbs) := Nat.mul_le_mul_left _ h3
  have h7 : rt n * rt n = (((rt n).natAbs * (rt n).natAbs : Nat) : Int) := by
    have : ((rt n).natAbs : Int) = rt n := by have := h.pos; omega
    rw [Int.natCast_mul, this]
  omega

theorem prime_ex : ∀ (f : Nat) (n : Int), 2 ≤ n → n ≤ f → ∃ p, Pr p ∧ p ∣ n
  | 0, n, h1, h2 => by omega
  | f + 1, n, h1, h2 => by
    by_cases h : Pr n
    · exact ⟨n, h, Int.dvd_refl n⟩
    · have : ∃ d : Int, 2 ≤ d ∧ d * d ≤ n ∧ d ∣ n := Classical.byContradiction fun hn => h ⟨h1, fun d hd hdd hdn => hn ⟨d, hd, hdd, hdn⟩⟩
      obtain ⟨d, hd, hdd, hdn⟩ := this
      have hlt : d < n := by
        have : 2 * d ≤ d * d := Int.mul_le_mul_of_nonneg_right hd (by omega)
        omega
      obtain ⟨p, hp, hpd⟩ := prime_ex f d hd (by omega)
      exact ⟨p, hp, Int.dvd_trans hpd hdn⟩

theorem prime_of {n : Int} (h : 2 ≤ n) : ∃ p, Pr p ∧ p ∣ n := prime_ex n.toNat n h (by omega)

theorem sqf_of_primes {c : Int} (h : ∀ p, Pr p → ¬ p * p ∣ c) : Sqf c := fun d hd hdd => by
  obtain ⟨p, hp, hpd⟩ := prime_of hd
  exact h p hp (Int.dvd_trans (Int.mul_dvd_mul hpd hpd) hdd)

/-- Two ascending lists of the same integers are the same. -/
theorem sorted_ext : ∀ {l m : List Int}, l.Pairwise (· < ·) → m.Pairwise (· < ·) → (∀ x, x ∈ l ↔ x ∈ m) → l = m
  | [], [], _, _, _ => rfl
  | [], b :: m, _, _, h => by have := (h b).2 (by simp); cases this
  | a :: l, [], _, _, h => by have := (h a).1 (by simp); cases this
  | a :: l, b :: m, h1, h2, h => by
    rw [List.pairwise_cons] at h1 h2
    have hab : a = b := by
      rcases List.mem_cons.1 ((h a).1 (by simp)) with e | e
      · exact e
      · rcases List.mem_cons.1 ((h b).2 (by simp)) with e' | e'
        · exact e'.symm
        · have := h1.1 b e'
          have := h2.1 a e
          omega
    subst hab
    congr 1
    refine sorted_ext h1.2 h2.2 fun x => ⟨fun hx => ?_, fun hx => ?_⟩
    · rcases List.mem_cons.1 ((h x).1 (by simp [hx])) with e | e
      · subst e; have := h1.1 x hx; omega
      · exact e
    · rcases List.mem_cons.1 ((h x).2 (by simp [hx])) with e | e
      · subst e; have := h2.1 x hx; omega
      · exact e

/-- The same square class. -/
def SqC (a b : Int) : Prop := ∃ r s : Int, r ≠ 0 ∧ s ≠ 0 ∧ a * (r * r) = b * (s * s)

theorem SqC.cor {a b : Int} (ha : a ≠ 0) (hb : b ≠ 0) (h : SqC a b) : cor a = cor b := by
  obtain ⟨r, s, hr, hs, h⟩ := h
  have h1 := cor_spec ha
  have h2 := cor_spec hb
  have hr' : 0 < (r.natAbs : Int) := by omega
  have hs' : 0 < (s.natAbs : Int) := by omega
  refine (core_uniq (r := E.rt a * r.natAbs) (s := E.rt b * s.natAbs) h1.sqf h2.sqf (Int.mul_pos h1.pos hr') (Int.mul_pos h2.pos hs') ?_).1
  have e1 : (r.natAbs : Int) * r.natAbs = r * r := by rw [← Int.natCast_mul, Int.natAbs_mul_self]
  have e2 : (s.natAbs : Int) * s.natAbs = s * s := by rw [← Int.natCast_mul, Int.natAbs_mul_self]
  have e3 := h1.eq
  have e4 := h2.eq
  grind

end Go.Proofs.Ytmmadcccjicdcaa.E
