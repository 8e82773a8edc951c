/- Symbols, and when a form vanishes at a place: plain definitions and first laws. -/
import Derived.Test.YtmmadcccjicdcaaN1
namespace Go.Proofs.Ytmmadcccjicdcaa.E
set_option linter.unusedVariables false

def hasRoot (r p : Int) : Nat → Bool
  | 0 => false
  | k + 1 => decide (((k + 1 : Nat) : Int) * ((k + 1 : Nat) : Int) % p = r) || hasRoot r p k

/-- 1, 0 or -1 for an odd prime. -/
def resd (n p : Int) : Int := if n % p = 0 then 0 else if hasRoot (n % p) p (p / 2).toNat then 1 else -1

theorem hasRoot_iff {r p : Int} : ∀ k : Nat, hasRoot r p k = true ↔ ∃ x : Int, 1 ≤ x ∧ x ≤ k ∧ x * x % p = r
  | 0 => by simp [hasRoot]; intro x h1 h2; omega
  | k + 1 => by
    rw [hasRoot, Bool.or_eq_true, decide_eq_true_eq, hasRoot_iff k]
    constructor
    · rintro (h | ⟨x, h1, h2, h3⟩)
      · exact ⟨_, by omega, Int.le_refl _, h⟩
      · exact ⟨x, h1, by omega, h3⟩
    · rintro ⟨x, h1, h2, h3⟩
      rcases (show x = ((k + 1 : Nat) : Int) ∨ x ≤ k by omega) with rfl | h
      · exact .inl h3
      · exact .inr ⟨x, h1, h, h3⟩

theorem sub_dvd_of_emod {p a b : Int} (h : a % p = b % p) : p ∣ a - b := by
  have := Int.emod_emod_of_dvd
  exact Int.dvd_of_emod_eq_zero (Int.emod_eq_emod_iff_emod_sub_eq_zero.1 h)

theorem emod_of_sub_dvd {p a b : Int} (h : p ∣ a - b) : a % p = b % p :=
  Int.emod_eq_emod_iff_emod_sub_eq_zero.2 (Int.emod_eq_zero_of_dvd h)

theorem hasRoot_qr {p n : Int} (hp : Pr p) (h2 : p ≠ 2) (hn : ¬ p ∣ n) : hasRoot (n % p) p (p / 2).toNat = true ↔ QR p n := by
  have hp2 := hp.1
  rw [hasRoot_iff]
  constructor
  · rintro ⟨x, _, _, h⟩; exact ⟨x, sub_dvd_of_emod h⟩
  · rintro ⟨x, hx⟩
    have hm := Int.emod_nonneg x (show p ≠ 0 by omega)
    have hm2 := Int.emod_lt_of_pos x (show 0 < p by omega)
    have he := Int.mul_ediv_add_emod x p
    have hd : p ∣ (x % p) * (x % p) - n := by
      obtain ⟨c, hc⟩ := hx
      exact ⟨c - (x / p) * (2 * x - p * (x / p)), by grind⟩
    generalize x % p = r at *
    have h0 : r ≠ 0 := fun e => by
      subst e
      apply hn
      obtain ⟨c, hc⟩ := hd
      exact ⟨-c, by grind⟩
    rcases (show r ≤ p / 2 ∨ p - r ≤ p / 2 by omega) with h | h
    · exact ⟨r, by omega, by omega, emod_of_sub_dvd hd⟩
    · refine ⟨p - r, by omega, by omega, emod_of_sub_dvd ?_⟩
      obtain ⟨c, hc⟩ := hd
      exact ⟨p - 2 * r + c, by grind⟩

theorem resd_zero {p n : Int} (h : p ∣ n) : resd n p = 0 := by
  unfold resd; rw [if_pos (Int.emod_eq_zero_of_dvd h)]

/-- Whether a rest is none of a square. -/
def nb (u p : Int) : Bool := decide (resd u p = -1)

theorem resd_nb {p n : Int} (hn : ¬ p ∣ n) : resd n p = if nb n p then -1 else 1 := by
  unfold nb resd
  have : ¬ n % p = 0 := fun h => hn (Int.dvd_of_emod_eq_zero h)
  rw [if_neg this]
  split <;> simp

theorem nb_qr {p n : Int} (hp : Pr p) (h2 : p ≠ 2) (hn : ¬ p ∣ n) : nb n p = false ↔ QR p n := by
  rw [← hasRoot_qr hp h2 hn]
  unfold nb resd
  have : ¬ n % p = 0 := fun h => hn (Int.dvd_of_emod_eq_zero h)
  rw [if_neg this]
  split <;> simp_all

theorem nb_mul {p a b : Int} (hp : Pr p) (h2 : p ≠ 2) (ha : ¬ p ∣ a) (hb : ¬ p ∣ b) : nb (a * b) p = (nb a p ^^ nb b p) := by
  have h := QR.mul_iff hp h2 ha hb
  rw [← nb_qr hp h2 ha, ← nb_qr hp h2 hb, ← nb_qr hp h2 (hp.not_dvd_mul ha hb)] at h
  revert h
  cases nb a p <;> cases nb b p <;> cases nb (a * b) p <;> simp

/-- Of -1. -/
theorem nb_neg_one {p : Int} (hp : Pr p) (h2 : p ≠ 2) : nb (-1) p = decide (((p - 1) / 2) % 2 = 1) := by
  have hp2 := hp.1
  have h1 : ¬ p ∣ (-1 : Int) := fun h => by have := small_dvd h (by omega) (by omega); omega
  obtain ⟨k, hk, a, b⟩ := euler hp h2 h1
  rw [← nb_qr hp h2 h1] at a b
  have e : (p - 1) / 2 = k := by omega
  rw [e]
  have hpar : (-1 : Int) ^ k = if k % 2 = 0 then 1 else -1 := by
    clear a b hk e
    induction k with
    | zero => rfl
    | succ k ih => rw [Int.pow_succ, ih]; split <;> split <;> omega
  rw [hpar] at a b
  have h3 : ¬ p ∣ (2 : Int) := fun h => by have := small_dvd (x := 2) h (by omega) (by omega); omega
  rcases (show k % 2 = 0 ∨ k % 2 = 1 by omega) with h | h
  · rw [h] at a b
    have hc : decide ((k : Int) % 2 = 1) = false := decide_eq_false (by omega)
    rw [hc]
    cases hx : nb (-1) p with
    | false => rfl
    | true => rw [hx] at b; exact absurd (b (by simp)) (by simpa using h3)
  · rw [h] at a b
    have hc : decide ((k : Int) % 2 = 1) = true := decide_eq_true (by omega)
    rw [hc]
    cases hx : nb (-1) p with
    | true => rfl
    | false =>
      have a := a hx
      rw [if_neg (by decide)] at a
      exfalso; apply h3
      obtain ⟨c, hc⟩ := a
      exact ⟨-c, by rw [Int.mul_neg, ← hc]; decide⟩

/-- Is a number's valuation odd? -/
def odd (n p : Int) : Bool := decide (val n p % 2 = 1)

/-- Is a unit's part by 2, ((u-1)/2) and ((u*u-1)/8), odd? -/
def q4 (u : Int) : Bool := decide (u % 4 = 3)
def q8 (u : Int) : Bool := decide (u % 8 = 3) || decide (u % 8 = 5)

/-- Is the symbol -1? -/
def symb (a b p : Int) : Bool :=
  if p = 0 then decide (a < 0) && decide (b < 0)
  else if p = 2 then (q4 (unt a 2) && q4 (unt b 2)) ^^ ((odd a 2 && q8 (unt b 2)) ^^ (odd b 2 && q8 (unt a 2)))
  else (odd a p && odd b p && decide (((p - 1) / 2) % 2 = 1)) ^^ ((odd b p && nb (unt a p) p) ^^ (odd a p && nb (unt b p) p))

/-- A local square. -/
def lsq (n p : Int) : Bool :=
  if p = 0 then decide (0 < n)
  else !odd n p && (if p = 2 then decide (unt n 2 % 8 = 1) else !nb (unt n p) p)

def prodL : List Int → Int
  | [] => 1
  | a :: r => a * prodL r

def lessL : List Int → Nat
  | [] => 0
  | a :: r => (if a < 0 then 1 else 0) + lessL r

def symL (a p : Int) : List Int → Bool
  | [] => false
  | b :: r => symb b a p ^^ symL a p r

def inv (p : Int) : List Int → Bool
  | [] => false
  | a :: r => symL a p r ^^ inv p r

/-- A form vanishes at a place. -/
def van (f : List Int) (p : Int) : Bool :=
  if p = 0 then decide (0 < lessL f) && decide (lessL f < f.length)
  else match f.length with
    | 2 => lsq (-prodL f) p
    | 3 => inv p f == symb (-1) (-prodL f) p
    | 4 => !lsq (prodL f) p || (inv p f == symb (-1) (-1) p)
    | _ => false

theorem symb_comm (a b p : Int) : symb a b p = symb b a p := by
  unfold symb
  split
  · rw [Bool.and_comm]
  · split
    · cases q4 (unt a 2) <;> cases q4 (unt b 2) <;> cases odd a 2 <;> cases odd b 2 <;> cases q8 (unt a 2) <;> cases q8 (unt b 2) <;> rfl
    · cases odd a p <;> cases odd b p <;> cases nb (unt a p) p <;> cases nb (unt b p) p <;> simp

/- Classes at an odd prime -/
structure Cl where
  o : Bool
  s : Bool

def cl (n p : Int) : Cl := ⟨odd n p, nb (unt n p) p⟩
def Cl.mul (a b : Cl) : Cl := ⟨a.o ^^ b.o, a.s ^^ b.s⟩
def Cl.one (a : Cl) : Bool := !a.o && !a.s
def Cl.sy (e : Bool) (a b : Cl) : Bool := (a.o && b.o && e) ^^ ((b.o && a.s) ^^ (a.o && b.s))

def Cl.prod : List Cl → Cl
  | [] => ⟨false, false⟩
  | a :: r => a.mul (Cl.prod r)
def Cl.syL (e : Bool) (a : Cl) : List Cl → Bool
  | [] => false
  | b :: r => Cl.sy e b a ^^ Cl.syL e a r
def Cl.inv (e : Bool) : List Cl → Bool
  | [] => false
  | a :: r => Cl.syL e a r ^^ Cl.inv e r
def Cl.van (e : Bool) (f : List Cl) : Bool :=
  match f.length with
  | 2 => (Cl.mul ⟨false, e⟩ (Cl.prod f)).one
  | 3 => Cl.inv e f == Cl.sy e ⟨false, e⟩ (Cl.mul ⟨false, e⟩ (Cl.prod f))
  | 4 => !(Cl.prod f).one || (Cl.inv e f == Cl.sy e ⟨false, e⟩ ⟨false, e⟩)
  | _ => false

theorem cl_mul {a b p : Int} (hp : Pr p) (h2 : p ≠ 2) (ha : a ≠ 0) (hb : b ≠ 0) (hn : (a * b).natAbs < 2 ^ 64) : cl (a * b) p = (cl a p).mul (cl b p) := by
  have hm : (a * b).natAbs = a.natAbs * b.natAbs := Int.natAbs_mul ..
  have k1 : a.natAbs * 1 ≤ a.natAbs * b.natAbs := Nat.mul_le_mul_left _ (by omega)
  have k2 : 1 * b.natAbs ≤ a.natAbs * b.natAbs := Nat.mul_le_mul_right _ (by omega)
  obtain ⟨h1, h3⟩ := val_mul hp ha hb hn
  obtain ⟨_, h4, _⟩ := val_spec (n := a) hp.1 ha (by omega)
  obtain ⟨_, h5, _⟩ := val_spec (n := b) hp.1 hb (by omega)
  unfold cl Cl.mul odd
  rw [h1, h3, nb_mul hp h2 h4 h5]
  congr 1
  rcases (show val a p % 2 = 0 ∨ val a p % 2 = 1 by omega) with x | x <;> rcases (show val b p % 2 = 0 ∨ val b p % 2 = 1 by omega) with y | y
  · rw [decide_eq_false (by omega), decide_eq_false (by omega), decide_eq_false (by omega)]; rfl
  · rw [decide_eq_true (by omega), decide_eq_false (by omega), decide_eq_true (by omega)]; rfl
  · rw [decide_eq_true (by omega), decide_eq_true (by omega), decide_eq_false (by omega)]; rfl
  · rw [decide_eq_false (by omega), decide_eq_true (by omega), decide_eq_true (by omega)]; rfl

theorem unit_one {p u : Int} (hp : 2 ≤ p) (h0 : u ≠ 0) (hu : ¬ p ∣ u) (hn : u.natAbs < 2 ^ 64) : val u p = 0 ∧ unt u p = u := val_eq hp h0 hn (k := 0) (by simp) hu

theorem cl_neg_one {p : Int} (hp : Pr p) (h2 : p ≠ 2) : cl (-1) p = ⟨false, nb (-1) p⟩ := by
  have hp2 := hp.1
  obtain ⟨h1, h3⟩ := unit_one (u := -1) hp.1 (by omega) (fun h => by have := small_dvd h (by omega) (by omega); omega) (by decide)
  unfold cl odd
  rw [h1, h3]; rfl

/-- A list of numbers that are not 0, with a small product. -/
def Fine : List Int → Prop
  | [] => True
  | a :: r => a ≠ 0 ∧ (a * prodL r).natAbs < 2 ^ 63 ∧ Fine r

theorem Fine.prod_ne : ∀ {l : List Int}, Fine l → prodL l ≠ 0
  | [], _ => by simp [prodL]
  | a :: r, h => Int.mul_ne_zero h.1 (Fine.prod_ne h.2.2)

theorem cl_prod {p : Int} (hp : Pr p) (h2 : p ≠ 2) : ∀ {l : List Int}, Fine l → cl (prodL l) p = Cl.prod (l.map (cl · p))
  | [], _ => by
    have hp2 := hp.1
    obtain ⟨h1, h3⟩ := unit_one (u := 1) hp.1 (by omega) (fun h => by have := small_dvd h (by omega) (by omega); omega) (by decide)
    have : nb 1 p = false := (nb_qr hp h2 (fun h => by have := small_dvd h (by omega) (by omega); omega)).2 ⟨1, by simp⟩
    simp only [prodL, cl, odd, h1, h3, this]
    rfl
  | a :: r, h => by
    show cl (a * prodL r) p = (cl a p).mul (Cl.prod (r.map (cl · p)))
    rw [cl_mul hp h2 h.1 (Fine.prod_ne h.2.2) (by have := h.2.1; omega), cl_prod hp h2 h.2.2]

theorem symb_cl {a b p : Int} (hp : Pr p) (h2 : p ≠ 2) : symb a b p = Cl.sy (nb (-1) p) (cl a p) (cl b p) := by
  have hp2 := hp.1
  unfold symb
  rw [if_neg (by omega), if_neg h2, nb_neg_one hp h2]
  rfl

theorem lsq_cl {n p : Int} (hp : Pr p) (h2 : p ≠ 2) : lsq n p = (cl n p).one := by
  have hp2 := hp.1
  unfold lsq
  rw [if_neg (by omega), if_neg h2]
  rfl

theorem inv_cl {p : Int} (hp : Pr p) (h2 : p ≠ 2) : ∀ l : List Int, inv p l = Cl.inv (nb (-1) p) (l.map (cl · p))
  | [] => rfl
  | a :: r => by
    have : ∀ r : List Int, symL a p r = Cl.syL (nb (-1) p) (cl a p) (r.map (cl · p)) := by
      intro r
      induction r with
      | nil => rfl
      | cons b r ih => simp only [symL, List.map_cons, Cl.syL, symb_cl hp h2, ih]
    simp only [inv, List.map_cons, Cl.inv, this, inv_cl hp h2 r]

theorem van_cl {p : Int} (hp : Pr p) (h2 : p ≠ 2) {l : List Int} (hl : Fine l) : van l p = Cl.van (nb (-1) p) (l.map (cl · p)) := by
  have hp2 := hp.1
  unfold van Cl.van
  rw [if_neg (by omega), List.length_map]
  have hb : (prodL l).natAbs < 2 ^ 63 := by
    cases l with
    | nil => simp [prodL]
    | cons a r => exact hl.2.1
  have hneg : cl (-prodL l) p = Cl.mul ⟨false, nb (-1) p⟩ (Cl.prod (l.map (cl · p))) := by
    have e : -prodL l = -1 * prodL l := by omega
    rw [e, cl_mul hp h2 (by omega) hl.prod_ne (by omega), cl_neg_one hp h2, cl_prod hp h2 hl]
  split
  · rw [lsq_cl hp h2, hneg]
  · rw [inv_cl hp h2, symb_cl hp h2, hneg, cl_neg_one hp h2]
  · rw [inv_cl hp h2, symb_cl hp h2, lsq_cl hp h2, cl_neg_one hp h2, cl_prod hp h2 hl]
  · rfl

end Go.Proofs.Ytmmadcccjicdcaa.E
