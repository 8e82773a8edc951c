/- Euler's criterion: which rests are squares by an odd prime. -/
import Derived.Test.YtmmadcccjicdcaaN0
namespace Go.Proofs.Ytmmadcccjicdcaa.E
set_option linter.unusedVariables false

theorem bezout : ∀ (a b : Nat), ∃ x y : Int, a * x + b * y = (Nat.gcd a b : Nat)
  | 0, b => ⟨0, 1, by simp⟩
  | a + 1, b => by
    have : b % (a + 1) < a + 1 := Nat.mod_lt _ (by omega)
    obtain ⟨x, y, h⟩ := bezout (b % (a + 1)) (a + 1)
    rw [Nat.gcd_rec]
    refine ⟨y - ((b / (a + 1) : Nat) : Int) * x, x, ?_⟩
    rw [← h]
    have e : (b : Int) = ((a + 1 : Nat) : Int) * ((b / (a + 1) : Nat) : Int) + ((b % (a + 1) : Nat) : Int) := by
      rw [← Int.natCast_mul, ← Int.natCast_add, Nat.div_add_mod]
    generalize ((b / (a + 1) : Nat) : Int) = q at *
    generalize ((b % (a + 1) : Nat) : Int) = r at *
    generalize ((a + 1 : Nat) : Int) = s at *
    rw [e]
    grind
termination_by a _ => a

theorem inv_ex {p x : Int} (hp : Pr p) (hx : ¬ p ∣ x) : ∃ y, p ∣ x * y - 1 := by
  obtain ⟨u, v, h⟩ := bezout p.natAbs x.natAbs
  have hc : Nat.gcd p.natAbs x.natAbs = 1 := hp.coprime hx
  rw [hc] at h
  have e1 : ((p.natAbs : Nat) : Int) = p := by have := hp.1; omega
  rw [e1] at h
  rcases Int.le_total 0 x with h0 | h0
  · have e2 : ((x.natAbs : Nat) : Int) = x := by omega
    rw [e2] at h
    exact ⟨v, -u, by grind⟩
  · have e2 : ((x.natAbs : Nat) : Int) = -x := by omega
    rw [e2] at h
    exact ⟨-v, -u, by grind⟩

theorem Pr.not_dvd_mul {p a b : Int} (hp : Pr p) (ha : ¬ p ∣ a) (hb : ¬ p ∣ b) : ¬ p ∣ a * b := fun h => (hp.dvd_mul h).elim ha hb

theorem small_dvd {p x : Int} (h : p ∣ x) (h1 : -p < x) (h2 : x < p) : x = 0 := by
  obtain ⟨c, rfl⟩ := h
  rcases Int.lt_trichotomy c 0 with hc | hc | hc
  · have : p * c ≤ p * (-1) := Int.mul_le_mul_of_nonneg_left (by omega) (by omega)
    omega
  · subst hc; simp
  · have : p * 1 ≤ p * c := Int.mul_le_mul_of_nonneg_left (by omega) (by omega)
    omega

/-- The partner of a rest x: by which it comes to n. -/
theorem partner_ex {p n x : Int} (hp : Pr p) (hn : ¬ p ∣ n) (hx : ¬ p ∣ x) : ∃ y, 1 ≤ y ∧ y < p ∧ p ∣ x * y - n := by
  obtain ⟨y, hy⟩ := inv_ex hp hx
  have h2 := hp.1
  have hm := Int.emod_nonneg (n * y) (show p ≠ 0 by omega)
  have hm2 := Int.emod_lt_of_pos (n * y) (show 0 < p by omega)
  have he := Int.mul_ediv_add_emod (n * y) p
  have hd : p ∣ x * ((n * y) % p) - n := by
    obtain ⟨c, hc⟩ := hy
    exact ⟨n * c - x * (n * y / p), by grind⟩
  refine ⟨(n * y) % p, ?_, hm2, hd⟩
  rcases (show (n * y) % p = 0 ∨ 1 ≤ (n * y) % p by omega) with h0 | h0
  · rw [h0] at hd
    exfalso; apply hn
    obtain ⟨c, hc⟩ := hd
    exact ⟨-c, by grind⟩
  · exact h0

noncomputable def partner (p n x : Int) : Int := open Classical in if h : ∃ y, 1 ≤ y ∧ y < p ∧ p ∣ x * y - n then Classical.choose h else 0

theorem partner_spec {p n x : Int} (hp : Pr p) (hn : ¬ p ∣ n) (hx : ¬ p ∣ x) : 1 ≤ partner p n x ∧ partner p n x < p ∧ p ∣ x * partner p n x - n := by
  have h := partner_ex hp hn hx
  unfold partner
  rw [dif_pos h]
  exact Classical.choose_spec h

theorem partner_uniq {p n x y z : Int} (hp : Pr p) (hx : ¬ p ∣ x) (h1 : 1 ≤ y) (h2 : y < p) (h3 : p ∣ x * y - n) (h4 : 1 ≤ z) (h5 : z < p) (h6 : p ∣ x * z - n) : y = z := by
  have hd : p ∣ x * (y - z) := by
    have := Int.dvd_sub h3 h6
    have e : x * y - n - (x * z - n) = x * (y - z) := by grind
    rwa [e] at this
  rcases hp.dvd_mul hd with h | h
  · exact absurd h hx
  · have := small_dvd h (by omega) (by omega)
    omega

def mprod : List Int → Int
  | [] => 1
  | a :: r => a * mprod r

theorem mprod_erase {a : Int} : ∀ {l : List Int}, a ∈ l → mprod l = a * mprod (l.erase a)
  | [], h => by cases h
  | b :: r, h => by
    rw [List.erase_cons]
    by_cases hb : b = a
    · subst hb; simp [mprod]
    · have : a ∈ r := by
        rcases List.mem_cons.1 h with h | h
        · exact absurd h.symm hb
        · exact h
      simp only [beq_iff_eq, hb, if_false, mprod]
      rw [mprod_erase this]
      grind

theorem pow_dvd {p a b : Int} (h : p ∣ a - b) : ∀ k : Nat, p ∣ a ^ k - b ^ k
  | 0 => by simp
  | k + 1 => by
    obtain ⟨c, hc⟩ := h
    obtain ⟨d, hd⟩ := pow_dvd (p := p) (a := a) (b := b) ⟨c, hc⟩ k
    rw [Int.pow_succ, Int.pow_succ]
    exact ⟨d * a + b ^ k * c, by grind⟩

theorem pair_prod {p c : Int} (σ : Int → Int) : ∀ (m : Nat) (l : List Int), l.length ≤ m → l.Nodup → (∀ x ∈ l, σ x ∈ l ∧ σ x ≠ x ∧ σ (σ x) = x ∧ p ∣ x * σ x - c) → ∃ k, l.length = 2 * k ∧ p ∣ mprod l - c ^ k
  | _, [], _, _, _ => ⟨0, rfl, by simp [mprod]⟩
  | 0, x :: r, h, _, _ => by simp at h
  | m + 1, x :: r, hl, hn, h => by
    obtain ⟨h1, h2, h3, h4⟩ := h x (by simp)
    have hxr : x ∉ r := (List.nodup_cons.1 hn).1
    have hr : r.Nodup := (List.nodup_cons.1 hn).2
    have hm : σ x ∈ r := by
      rcases List.mem_cons.1 h1 with h | h
      · exact absurd h h2
      · exact h
    have hlen : (r.erase (σ x)).length = r.length - 1 := List.length_erase_of_mem hm
    have hpos : 0 < r.length := List.length_pos_of_mem hm
    simp only [List.length_cons] at hl
    obtain ⟨k, hk, hd⟩ := pair_prod σ m (r.erase (σ x)) (by omega) (hr.erase _) (fun y hy => by
      have hyr : y ∈ r := List.mem_of_mem_erase hy
      have hne : y ≠ σ x := fun e => by subst e; exact (hr.not_mem_erase) hy
      obtain ⟨g1, g2, g3, g4⟩ := h y (List.mem_cons_of_mem _ hyr)
      refine ⟨?_, g2, g3, g4⟩
      have hyx : σ y ≠ x := fun e => hne (by rw [← e, g3])
      have hys : σ y ≠ σ x := fun e => by
        have : y = x := by rw [← g3, e, h3]
        subst this; exact hxr hyr
      rcases List.mem_cons.1 g1 with h | h
      · exact absurd h hyx
      · exact (List.mem_erase_of_ne hys).2 h)
    refine ⟨k + 1, by simp only [List.length_cons]; omega, ?_⟩
    simp only [mprod]
    rw [mprod_erase hm, Int.pow_succ]
    obtain ⟨a, ha⟩ := h4
    obtain ⟨b, hb⟩ := hd
    exact ⟨mprod (r.erase (σ x)) * a + b * c, by grind⟩

def units (p : Int) : List Int := (List.range (p - 1).toNat).map fun i : Nat => (i : Int) + 1

theorem mem_units {p x : Int} : x ∈ units p ↔ 1 ≤ x ∧ x < p := by
  unfold units
  simp only [List.mem_map, List.mem_range]
  constructor
  · rintro ⟨i, hi, rfl⟩; omega
  · rintro ⟨h1, h2⟩; exact ⟨(x - 1).toNat, by omega, by omega⟩

theorem nodup_units (p : Int) : (units p).Nodup := by
  unfold units
  rw [List.nodup_iff_pairwise_ne, List.pairwise_map]
  exact (List.nodup_iff_pairwise_ne.1 List.nodup_range).imp fun {a b} h e => h (by omega)

theorem length_units (p : Int) : (units p).length = (p - 1).toNat := by simp [units]

def QR (p n : Int) : Prop := ∃ x, p ∣ x * x - n

theorem unit_ndvd {p x : Int} (h1 : 1 ≤ x) (h2 : x < p) : ¬ p ∣ x := fun h => by
  have := small_dvd h (by omega) h2
  omega

theorem nonres_prod {p n : Int} (hp : Pr p) (hn : ¬ p ∣ n) (hq : ¬ QR p n) : ∃ k : Nat, (p - 1).toNat = 2 * k ∧ p ∣ mprod (units p) - n ^ k := by
  have := pair_prod (p := p) (c := n) (partner p n) (units p).length (units p) (Nat.le_refl _) (nodup_units p) (fun x hx => by
    obtain ⟨h1, h2⟩ := mem_units.1 hx
    have hx' := unit_ndvd h1 h2
    obtain ⟨g1, g2, g3⟩ := partner_spec hp hn hx'
    refine ⟨mem_units.2 ⟨g1, g2⟩, fun e => ?_, ?_, g3⟩
    · rw [e] at g3; exact hq ⟨x, g3⟩
    · have hy' := unit_ndvd g1 g2
      obtain ⟨k1, k2, k3⟩ := partner_spec hp hn hy'
      exact partner_uniq hp hy' k1 k2 k3 h1 h2 (by rw [Int.mul_comm]; exact g3))
  rw [length_units] at this
  exact this

theorem res_prod {p n : Int} (hp : Pr p) (h2 : p ≠ 2) (hn : ¬ p ∣ n) (hq : QR p n) : ∃ k : Nat, (p - 1).toNat = 2 * k ∧ p ∣ mprod (units p) + n ^ k := by
  obtain ⟨x, hx⟩ := hq
  have hp2 := hp.1
  -- a root in range
  obtain ⟨r, hr1, hr2, hr⟩ : ∃ r, 1 ≤ r ∧ r < p ∧ p ∣ r * r - n := by
    have hm := Int.emod_nonneg x (show p ≠ 0 by omega)
    have hm2 := Int.emod_lt_of_pos x (show 0 < p by omega)
    have he := Int.mul_ediv_add_emod x p
    have hd : p ∣ (x % p) * (x % p) - n := by
      obtain ⟨c, hc⟩ := hx
      exact ⟨c - (x / p) * (2 * x - p * (x / p)), by grind⟩
    refine ⟨x % p, ?_, hm2, hd⟩
    rcases (show x % p = 0 ∨ 1 ≤ x % p by omega) with h0 | h0
    · rw [h0] at hd
      exfalso; apply hn
      obtain ⟨c, hc⟩ := hd
      exact ⟨-c, by grind⟩
    · exact h0
  have hodd : p ≠ 2 * r := fun e => by
    rcases hp.div (d := 2) (by omega) ⟨r, e⟩ with h | h <;> omega
  have hs : p ∣ (p - r) * (p - r) - n := by
    obtain ⟨c, hc⟩ := hr
    exact ⟨p - 2 * r + c, by grind⟩
  have hrU : r ∈ units p := mem_units.2 ⟨hr1, hr2⟩
  have hsU : p - r ∈ (units p).erase r := (List.mem_erase_of_ne (by omega)).2 (mem_units.2 ⟨by omega, by omega⟩)
  have nd1 := (nodup_units p).erase r
  have hfix : ∀ y, 1 ≤ y → y < p → p ∣ y * y - n → y = r ∨ y = p - r := fun y h1 h2 h3 => by
    have hd : p ∣ (y - r) * (y + r) := by
      have := Int.dvd_sub h3 hr
      have e : y * y - n - (r * r - n) = (y - r) * (y + r) := by grind
      rwa [e] at this
    rcases hp.dvd_mul hd with h | h
    · have := small_dvd h (by omega) (by omega); left; omega
    · obtain ⟨c, hc⟩ := h
      have h5 : p ∣ y - (p - r) := ⟨c - 1, by grind⟩
      have := small_dvd h5 (by omega) (by omega); right; omega
  obtain ⟨k, hk, hd⟩ := pair_prod (p := p) (c := n) (partner p n) (((units p).erase r).erase (p - r)).length (((units p).erase r).erase (p - r)) (Nat.le_refl _) (nd1.erase _) (fun y hy => by
    have hy1 : y ∈ (units p).erase r := List.mem_of_mem_erase hy
    have hy2 : y ∈ units p := List.mem_of_mem_erase hy1
    have n1 : y ≠ r := fun e => by subst e; exact (nodup_units p).not_mem_erase hy1
    have n2 : y ≠ p - r := fun e => by subst e; exact nd1.not_mem_erase hy
    obtain ⟨h1, h2⟩ := mem_units.1 hy2
    have hy' := unit_ndvd h1 h2
    obtain ⟨g1, g2, g3⟩ := partner_spec hp hn hy'
    have hz' := unit_ndvd g1 g2
    obtain ⟨k1, k2, k3⟩ := partner_spec hp hn hz'
    have m1 : partner p n y ≠ r := fun e => n1 (partner_uniq hp (unit_ndvd hr1 hr2) h1 h2 (by rw [e, Int.mul_comm] at g3; exact g3) hr1 hr2 hr)
    have m2 : partner p n y ≠ p - r := fun e => n2 (partner_uniq hp (unit_ndvd (x := p - r) (by omega) (by omega)) h1 h2 (by rw [e, Int.mul_comm] at g3; exact g3) (by omega) (by omega) hs)
    refine ⟨?_, fun e => ?_, partner_uniq hp hz' k1 k2 k3 h1 h2 (by rw [Int.mul_comm]; exact g3), g3⟩
    · exact (List.mem_erase_of_ne m2).2 ((List.mem_erase_of_ne m1).2 (mem_units.2 ⟨g1, g2⟩))
    · rw [e] at g3
      rcases hfix y h1 h2 g3 with h | h
      · exact n1 h
      · exact n2 h)
  rw [List.length_erase_of_mem hsU, List.length_erase_of_mem hrU, length_units] at hk
  refine ⟨k + 1, by omega, ?_⟩
  rw [mprod_erase hrU, mprod_erase hsU, Int.pow_succ]
  obtain ⟨a, ha⟩ := hd
  obtain ⟨b, hb⟩ := hr
  generalize mprod (((units p).erase r).erase (p - r)) = M at *
  generalize n ^ k = N at *
  have e1 : M = N + p * a := by omega
  have e2 : r * r = n + p * b := by omega
  refine ⟨r * M - a * (r * r) - b * N, ?_⟩
  rw [e1]
  grind

theorem euler {p n : Int} (hp : Pr p) (h2 : p ≠ 2) (hn : ¬ p ∣ n) : ∃ k : Nat, (p - 1).toNat = 2 * k ∧ (QR p n → p ∣ n ^ k - 1) ∧ (¬ QR p n → p ∣ n ^ k + 1) := by
  have hp2 := hp.1
  obtain ⟨k, hk, hw⟩ := res_prod hp h2 (unit_ndvd (p := p) (x := 1) (by omega) (by omega)) ⟨1, by simp⟩
  rw [Int.one_pow] at hw
  refine ⟨k, hk, fun hq => ?_, fun hq => ?_⟩
  · obtain ⟨k', hk', hd⟩ := res_prod hp h2 hn hq
    obtain rfl : k' = k := by omega
    have := Int.dvd_sub hd hw
    have e : mprod (units p) + n ^ k' - (mprod (units p) + 1) = n ^ k' - 1 := by omega
    rwa [e] at this
  · obtain ⟨k', hk', hd⟩ := nonres_prod hp hn hq
    obtain rfl : k' = k := by omega
    have := Int.dvd_sub hw hd
    have e : mprod (units p) + 1 - (mprod (units p) - n ^ k') = n ^ k' + 1 := by omega
    rwa [e] at this

theorem QR.mul_iff {p a b : Int} (hp : Pr p) (h2 : p ≠ 2) (ha : ¬ p ∣ a) (hb : ¬ p ∣ b) : QR p (a * b) ↔ (QR p a ↔ QR p b) := by
  have hp2 := hp.1
  have h1 : ¬ p ∣ (2 : Int) := fun h => by
    obtain ⟨c, hc⟩ := h
    have := small_dvd (p := p) (x := 2) ⟨c, hc⟩ (by omega) (by omega)
    omega
  have flip : ∀ {X : Int}, p ∣ X - 1 → p ∣ X + 1 → False := fun {X} g1 g2 => h1 (by
    have := Int.dvd_sub g2 g1
    have e : X + 1 - (X - 1) = 2 := by omega
    rwa [e] at this)
  obtain ⟨k, hk, a1, a2⟩ := euler hp h2 ha
  obtain ⟨k1, hk1, b1, b2⟩ := euler hp h2 hb
  obtain rfl : k = k1 := by omega
  obtain ⟨k2, hk2, c1, c2⟩ := euler hp h2 (hp.not_dvd_mul ha hb)
  obtain rfl : k = k2 := by omega
  rw [Int.mul_pow] at c1 c2
  generalize a ^ k = A at *
  generalize b ^ k = B at *
  by_cases qa : QR p a <;> by_cases qb : QR p b <;> by_cases qc : QR p (a * b) <;> simp [qa, qb, qc]
  · obtain ⟨x, hx⟩ := a1 qa; obtain ⟨y, hy⟩ := b1 qb
    exact flip (X := A * B) ⟨x * B + y, by grind⟩ (c2 qc)
  · obtain ⟨x, hx⟩ := a1 qa; obtain ⟨y, hy⟩ := b2 qb
    exact flip (X := A * B) (c1 qc) ⟨x * B + y, by grind⟩
  · obtain ⟨x, hx⟩ := a2 qa; obtain ⟨y, hy⟩ := b1 qb
    exact flip (X := A * B) (c1 qc) ⟨x * B - y, by grind⟩
  · obtain ⟨x, hx⟩ := a2 qa; obtain ⟨y, hy⟩ := b2 qb
    exact flip (X := A * B) ⟨x * B - y, by grind⟩ (c2 qc)

end Go.Proofs.Ytmmadcccjicdcaa.E
