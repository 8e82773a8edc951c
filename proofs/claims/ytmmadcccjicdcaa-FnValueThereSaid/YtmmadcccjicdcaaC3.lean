/- Greatest divisors, plain vectors, and what is counted over vectors: the program's functions and the reference's. -/
import Derived.Test.YtmmadcccjicdcaaG4a
import Derived.Test.YtmmadcccjicdcaaC1
import Derived.Test.YtmmadcccjicdcaaC2
namespace Go.Proofs.Ytmmadcccjicdcaa.E
set_option linter.unusedVariables false
set_option linter.unusedSimpArgs false
set_option maxRecDepth 100000

theorem gcd_step (a b : Nat) : Nat.gcd a b = Nat.gcd b (a % b) := by
  rw [Nat.gcd_comm a b, Nat.gcd_rec b a, Nat.gcd_comm]

theorem gcd_loop {R : Type} (k : Nat) {l : List Int} {x y : Int} : ∀ (j fuel a b : Nat), b < 2 ^ j → 2 * j + 1 < fuel → ∀ K0 : Int → List Int → Int → Int → Option R,
    l_impl_gcd_6 k fuel (a : Int) (b : Int) l x y K0 = K0 ((Nat.gcd a b : Nat) : Int) l x y := by
  have zero : ∀ (fuel a : Nat) (K0 : Int → List Int → Int → Int → Option R), l_impl_gcd_6 k (fuel + 1) (a : Int) ((0 : Nat) : Int) l x y K0 = K0 (a : Int) l x y := fun fuel a K0 => by
    simp only [l_impl_gcd_6, show ((0 : Nat) : Int) = 0 from rfl, decide_true, Bool.not_true, cond_false]
  have step : ∀ (fuel a b : Nat) (K0 : Int → List Int → Int → Int → Option R), b ≠ 0 → l_impl_gcd_6 k (fuel + 1) (a : Int) (b : Int) l x y K0 = l_impl_gcd_6 k fuel (b : Int) ((a % b : Nat) : Int) l x y K0 := fun fuel a b K0 hb => by
    have e : Int.tmod (a : Int) (b : Int) = ((a % b : Nat) : Int) := by rw [Int.tmod_eq_emod_of_nonneg (by omega)]; exact (Int.natCast_emod a b).symm
    simp only [l_impl_gcd_6, show ¬ (b : Int) = 0 by omega, decide_false, Bool.not_false, cond_true, e]
  intro j
  induction j with
  | zero =>
    intro fuel a b hb hf K0
    obtain ⟨g, rfl⟩ : ∃ g, fuel = g + 1 := ⟨fuel - 1, by omega⟩
    have : b = 0 := by simp at hb; exact hb
    subst this
    rw [zero, Nat.gcd_zero_right]
  | succ j ih =>
    intro fuel a b hb hf K0
    obtain ⟨g, rfl⟩ : ∃ g, fuel = g + 2 := ⟨fuel - 2, by omega⟩
    by_cases h0 : b = 0
    · subst h0; rw [zero, Nat.gcd_zero_right]
    rw [step _ _ _ _ h0, gcd_step a b]
    by_cases h1 : a % b = 0
    · rw [h1, zero, Nat.gcd_zero_right]
    · rw [step _ _ _ _ h1, gcd_step b (a % b)]
      have hlt : a % b < b := Nat.mod_lt _ (by omega)
      have hm := Nat.div_add_mod b (a % b)
      have hq : 1 ≤ b / (a % b) := (Nat.one_le_div_iff (by omega)).2 (by omega)
      have hr : b % (a % b) < a % b := Nat.mod_lt _ (by omega)
      have hmul : (a % b) * 1 ≤ (a % b) * (b / (a % b)) := Nat.mul_le_mul_left _ hq
      exact ih g (a % b) (b % (a % b)) (by rw [Nat.pow_succ] at hb; omega) (by omega) K0

def gcdL (l : List Int) : Nat := l.foldl (fun g x => Nat.gcd g x.natAbs) 0
def gcdF (g : Nat) (l : List Int) : Nat := l.foldl (fun g x => Nat.gcd g x.natAbs) g

theorem gcdL_loop {R : Type} {k : Nat} (hk : 200 ≤ k) {l : List Int} (hs : Sz l) (hl : l.length < 4611686018427387904) : ∀ (j i fuel g : Nat), i + j = l.length → j < fuel → ∀ K0 : Int → Option R,
    l_impl_gcd_3 k fuel (g : Int) l (l.length : Int) (i : Int) K0 = K0 ((gcdF g (l.drop i) : Nat) : Int)
  | 0, i, fuel, g, hi, hf, K0 => by
    obtain ⟨f, rfl⟩ : ∃ f, fuel = f + 1 := ⟨fuel - 1, by omega⟩
    have : l.drop i = [] := List.drop_eq_nil_of_le (by omega)
    simp only [l_impl_gcd_3, show ¬ (i : Int) < (l.length : Int) by omega, decide_false, cond_false, this, gcdF, List.foldl_nil]
  | j + 1, i, fuel, g, hi, hf, K0 => by
    obtain ⟨f, rfl⟩ : ∃ f, fuel = f + 1 := ⟨fuel - 1, by omega⟩
    have hil : i < l.length := by omega
    have hx := hs _ (getD_mem hil)
    rw [getD_drop hil]
    generalize ht : l.getD i 0 = t at *
    simp only [l_impl_gcd_3, show (i : Int) < (l.length : Int) by omega, show (0 : Int) ≤ (i : Int) by omega, Int.toNat_natCast, ht, decide_true, cond_true, Bool.and_self, f_impl_size_eq k hx,
      gcd_loop (R := R) k 63 k g t.natAbs (by omega) (by omega), add_one (show i < 4611686018427387904 by omega)]
    exact gcdL_loop hk hs hl j (i + 1) f (Nat.gcd g t.natAbs) (by omega) (by omega) K0

theorem f_impl_gcd_eq {R : Type} {k : Nat} (hk : 200 ≤ k) {l : List Int} (hs : Sz l) (hl : l.length < 200) (K : Int → Option R) : f_impl_gcd k l K = K (gcdL l : Nat) := by
  have := gcdL_loop (R := R) hk hs (by omega) l.length 0 k 0 (by omega) (by omega) (fun y15 => K y15)
  simp only [List.drop_zero] at this
  exact this

theorem gcdF_dvd : ∀ (l : List Int) (g : Nat), gcdF g l ∣ g ∧ ∀ x ∈ l, gcdF g l ∣ x.natAbs
  | [], g => ⟨Nat.dvd_refl g, by simp⟩
  | a :: r, g => by
    obtain ⟨h1, h2⟩ := gcdF_dvd r (Nat.gcd g a.natAbs)
    refine ⟨Nat.dvd_trans h1 (Nat.gcd_dvd_left ..), fun x hx => ?_⟩
    rcases List.mem_cons.1 hx with rfl | hx
    · exact Nat.dvd_trans h1 (Nat.gcd_dvd_right ..)
    · exact h2 x hx

theorem gcdF_greatest : ∀ (l : List Int) (g d : Nat), d ∣ g → (∀ x ∈ l, d ∣ x.natAbs) → d ∣ gcdF g l
  | [], g, d, h, _ => h
  | a :: r, g, d, h, h2 => gcdF_greatest r (Nat.gcd g a.natAbs) d (Nat.dvd_gcd h (h2 a (by simp))) fun x hx => h2 x (List.mem_cons_of_mem _ hx)

theorem gcdL_dvd {l : List Int} {x : Int} (hx : x ∈ l) : ((gcdL l : Nat) : Int) ∣ x := by
  have := (gcdF_dvd l 0).2 x hx
  rw [← Int.natAbs_dvd_natAbs]
  simp only [Int.natAbs_natCast]
  exact this

theorem gcdL_zero {l : List Int} : gcdL l = 0 ↔ zeroV l = true := by
  constructor
  · intro h
    have : ∀ x ∈ l, x = 0 := fun x hx => by
      have := (gcdF_dvd l 0).2 x hx
      have h' : gcdF 0 l = 0 := h
      rw [h'] at this
      have := Nat.eq_zero_of_zero_dvd this
      omega
    clear h
    induction l with
    | nil => rfl
    | cons a r ih => simp only [zeroV, this a (by simp), decide_true, Bool.true_and]; exact ih fun x hx => this x (List.mem_cons_of_mem _ hx)
  · intro h
    have key : ∀ (l : List Int), zeroV l = true → gcdF 0 l = 0 := by
      intro l
      induction l with
      | nil => intro _; rfl
      | cons a r ih =>
        intro h
        simp only [zeroV, Bool.and_eq_true, decide_eq_true_eq] at h
        rw [h.1]
        exact ih h.2
    exact key l h

def sgnV (v : List Int) : Int := if posV v || zeroV v then 1 else -1

theorem plain_loop1 {R : Type} (k : Nat) {v2 l : List Int} {d : Int} (hd : d.natAbs < 9223372036854775808) (hl : l.length < 4611686018427387904) : ∀ (j i fuel : Nat), i + j = l.length → j < fuel → ∀ K0 : List Int → Int → Option R,
    l_impl_plain_3 k fuel v2 d l (l.length : Int) (i : Int) K0 = K0 v2 (sgnV (l.drop i) * d)
  | 0, i, fuel, hi, hf, K0 => by
    obtain ⟨f, rfl⟩ : ∃ f, fuel = f + 1 := ⟨fuel - 1, by omega⟩
    have : l.drop i = [] := List.drop_eq_nil_of_le (by omega)
    simp only [l_impl_plain_3, show ¬ (i : Int) < (l.length : Int) by omega, decide_false, cond_false, this, sgnV, posV, zeroV, Bool.or_true, if_true, Int.one_mul]
  | j + 1, i, fuel, hi, hf, K0 => by
    obtain ⟨f, rfl⟩ : ∃ f, fuel = f + 1 := ⟨fuel - 1, by omega⟩
    have hil : i < l.length := by omega
    rw [getD_drop hil]
    generalize ht : l.getD i 0 = t at *
    have w : IntKind.wrap .i64 (0 - d) = -d := by rw [show 0 - d = -d by omega]; exact wrap_abs (by omega)
    have ih := plain_loop1 (R := R) k (v2 := v2) hd hl j (i + 1) f (by omega) (by omega) K0
    simp only [l_impl_plain_3, show (i : Int) < (l.length : Int) by omega, show (0 : Int) ≤ (i : Int) by omega, Int.toNat_natCast, ht, decide_true, cond_true, Bool.and_self, w, add_one (show i < 4611686018427387904 by omega), ih, sgnV, posV, zeroV]
    by_cases h0 : t = 0
    · simp only [h0, decide_true, Bool.not_true, cond_false, if_true, Bool.true_and]
    · by_cases h1 : t < 0
      · simp only [h0, h1, show ¬ 0 < t by omega, decide_true, decide_false, Bool.not_false, cond_true, if_false, Bool.false_and, Bool.or_self, Bool.false_eq_true]
        congr 1; omega
      · simp only [h0, h1, show 0 < t by omega, decide_true, decide_false, Bool.not_false, cond_true, cond_false, if_false, Bool.true_or, if_true, Int.one_mul]

theorem plain_loop2 {R : Type} (k : Nat) {l : List Int} {d : Int} (hd : d ≠ 0) (hs : ∀ x ∈ l, x.natAbs < 9223372036854775808 ∧ (x.tdiv d).natAbs < 9223372036854775808) (hl : l.length < 1000) : ∀ (j i fuel : Nat) (acc : List Int), i + j = l.length → j < fuel → acc.length + j ≤ 100000 → ∀ K0 : List Int → Option R,
    l_impl_plain_11 k fuel d l (l.length : Int) (i : Int) acc K0 = K0 (acc ++ (l.drop i).map fun x => x.tdiv d)
  | 0, i, fuel, acc, hi, hf, hb, K0 => by
    obtain ⟨f, rfl⟩ : ∃ f, fuel = f + 1 := ⟨fuel - 1, by omega⟩
    have : l.drop i = [] := List.drop_eq_nil_of_le (by omega)
    simp only [l_impl_plain_11, show ¬ (i : Int) < (l.length : Int) by omega, decide_false, cond_false, this, List.map_nil, List.append_nil]
  | j + 1, i, fuel, acc, hi, hf, hb, K0 => by
    obtain ⟨f, rfl⟩ : ∃ f, fuel = f + 1 := ⟨fuel - 1, by omega⟩
    have hil : i < l.length := by omega
    have hx := hs _ (getD_mem hil)
    rw [getD_drop hil]
    generalize ht : l.getD i 0 = t at *
    simp only [l_impl_plain_11, show (i : Int) < (l.length : Int) by omega, show (0 : Int) ≤ (i : Int) by omega, Int.toNat_natCast, ht, hd, decide_true, decide_false, Bool.not_false, cond_true, Bool.and_self, add_one (show i < 4611686018427387904 by omega), wrap_abs hx.2, ble_lim (show acc.length + 1 ≤ 4294967296 by omega)]
    rw [plain_loop2 k hd hs hl j (i + 1) f _ (by omega) (by omega) (by simp; omega) K0, List.append_assoc]
    rfl

/-- The plain vector. -/
def plainL (v : List Int) : List Int := v.map fun x => x.tdiv (sgnV v * (gcdL v : Nat))

theorem gcdL_le {l : List Int} {x : Int} (hx : x ∈ l) (h0 : x ≠ 0) : gcdL l ≤ x.natAbs := Nat.le_of_dvd (by omega) ((gcdF_dvd l 0).2 x hx)

theorem gcdL_small {l : List Int} (hs : Sz l) : gcdL l < 9223372036854775808 := by
  by_cases h : gcdL l = 0
  · omega
  · have : ∃ x ∈ l, x ≠ 0 := by
      apply Classical.byContradiction
      intro hn
      apply h
      rw [gcdL_zero]
      have hz : ∀ x ∈ l, x = 0 := fun x hx => Classical.byContradiction fun h0 => hn ⟨x, hx, h0⟩
      clear hs h hn
      induction l with
      | nil => rfl
      | cons a r ih => simp only [zeroV, hz a (by simp), decide_true, Bool.true_and]; exact ih fun x hx => hz x (List.mem_cons_of_mem _ hx)
    obtain ⟨x, hx, h0⟩ := this
    have := gcdL_le hx h0
    have := hs x hx
    omega

theorem sgnV_cases (v : List Int) : sgnV v = 1 ∨ sgnV v = -1 := by unfold sgnV; split <;> simp

theorem natAbs_tdiv_le (x d : Int) : (x.tdiv d).natAbs ≤ x.natAbs := by
  rw [Int.natAbs_tdiv]; exact Nat.div_le_self _ _

theorem f_impl_plain_eq {R : Type} {k : Nat} (hk : 1000 ≤ k) {l : List Int} (hs : Sz l) (hl : l.length < 200) (hg : gcdL l ≠ 0) (K : List Int → Option R) : f_impl_plain k l K = K (plainL l) := by
  have hsm := gcdL_small hs
  have hd0 : sgnV l * ((gcdL l : Nat) : Int) ≠ 0 := by rcases sgnV_cases l with h | h <;> rw [h] <;> omega
  have h1 := plain_loop1 (R := R) k (v2 := l) (l := l) (d := ((gcdL l : Nat) : Int)) (by omega) (by omega) l.length 0 k (by omega) (by omega)
  have h2 := plain_loop2 (R := R) k (l := l) hd0 (fun x hx => ⟨hs x hx, by have := natAbs_tdiv_le x (sgnV l * ((gcdL l : Nat) : Int)); have := hs x hx; omega⟩) (by omega) l.length 0 k [] (by omega) (by omega) (by simp; omega) (fun y14 => K y14)
  simp only [List.drop_zero, show ((0 : Nat) : Int) = 0 from rfl, List.nil_append] at h1 h2
  simp only [f_impl_plain, f_impl_gcd_eq (show 200 ≤ k by omega) hs (show l.length < 200 by omega), h1]
  exact h2

theorem equal_loop {R : Type} (k : Nat) {a b : List Int} (hl : a.length = b.length) (hb : a.length < 4611686018427387904) : ∀ (j i fuel : Nat), i + j = a.length → j < fuel → ∀ (K0 : Bool → Option R) (K1 : Option R),
    (a.drop i = b.drop i ∧ l_slices_Equal_4 k fuel a b (a.length : Int) (i : Int) K0 K1 = K1) ∨ (a.drop i ≠ b.drop i ∧ l_slices_Equal_4 k fuel a b (a.length : Int) (i : Int) K0 K1 = K0 false)
  | 0, i, fuel, hi, hf, K0, K1 => by
    obtain ⟨f, rfl⟩ : ∃ f, fuel = f + 1 := ⟨fuel - 1, by omega⟩
    have e1 : a.drop i = [] := List.drop_eq_nil_of_le (by omega)
    have e2 : b.drop i = [] := List.drop_eq_nil_of_le (by omega)
    left
    refine ⟨by rw [e1, e2], ?_⟩
    simp only [l_slices_Equal_4, show ¬ (i : Int) < (a.length : Int) by omega, decide_false, cond_false]
  | j + 1, i, fuel, hi, hf, K0, K1 => by
    obtain ⟨f, rfl⟩ : ∃ f, fuel = f + 1 := ⟨fuel - 1, by omega⟩
    have hil : i < a.length := by omega
    rw [getD_drop hil, getD_drop (l := b) (i := i) (by omega)]
    generalize ht : a.getD i 0 = t at *
    generalize hu : b.getD i 0 = u at *
    by_cases h : t = u
    · have e : l_slices_Equal_4 k (f + 1) a b (a.length : Int) (i : Int) K0 K1 = l_slices_Equal_4 k f a b (a.length : Int) ((i + 1 : Nat) : Int) K0 K1 := by
        simp only [l_slices_Equal_4, show (i : Int) < (a.length : Int) by omega, show (i : Int) < (b.length : Int) by omega, show (0 : Int) ≤ (i : Int) by omega, Int.toNat_natCast, ht, hu, h, decide_true, Bool.not_true, cond_true, cond_false, Bool.and_self, add_one (show i < 4611686018427387904 by omega)]
      rw [e]
      rcases equal_loop (R := R) k hl hb j (i + 1) f (by omega) (by omega) K0 K1 with ⟨h1, h2⟩ | ⟨h1, h2⟩
      · exact .inl ⟨by rw [h, h1], h2⟩
      · exact .inr ⟨fun e => h1 (List.cons.inj e).2, h2⟩
    · right
      refine ⟨fun e => h (List.cons.inj e).1, ?_⟩
      simp only [l_slices_Equal_4, show (i : Int) < (a.length : Int) by omega, show (i : Int) < (b.length : Int) by omega, show (0 : Int) ≤ (i : Int) by omega, Int.toNat_natCast, ht, hu, h, decide_true, decide_false, Bool.not_false, cond_true, Bool.and_self]

theorem f_slices_Equal_eq {R : Type} {k : Nat} {a b : List Int} (hk : a.length < k) (hb : a.length < 4611686018427387904) (K : Bool → Option R) : f_slices_Equal k a b K = K (decide (a = b)) := by
  unfold f_slices_Equal
  by_cases hl : a.length = b.length
  · simp only [show ((a.length : Int)) = (b.length : Int) by omega, decide_true, Bool.not_true, cond_false]
    rw [← show ((a.length : Int)) = (b.length : Int) by omega]
    rcases equal_loop (R := R) k hl hb a.length 0 k (by omega) hk (fun y5 => K y5) (K true) with ⟨h1, h2⟩ | ⟨h1, h2⟩
    · rw [List.drop_zero, List.drop_zero] at h1
      rw [decide_eq_true h1]; exact h2
    · rw [List.drop_zero, List.drop_zero] at h1
      rw [decide_eq_false h1]; exact h2
  · have : ¬ a = b := fun e => hl (by rw [e])
    simp only [show ¬ ((a.length : Int)) = (b.length : Int) by omega, decide_false, Bool.not_false, cond_true, this]

theorem dot_qf : ∀ l v : List Int, dot l v v = qf l v
  | [], v => by simp [dot, qf]
  | a :: r, [] => by simp [dot, qf]
  | a :: r, x :: s => by simp only [dot, qf, dot_qf r s]

/-- A plain zero counts. -/
def zp (l v : List Int) : Int := if qf l v = 0 ∧ gcdL v ≠ 0 ∧ plainL v = v then 1 else 0

theorem zp_bound (l v : List Int) : 0 ≤ zp l v ∧ zp l v ≤ 1 := by unfold zp; split <;> omega

theorem f_impl_ZeroMany_1_eq {R : Type} {k : Nat} (hk : 1000 ≤ k) {l v : List Int} (hv : v.length = l.length) (hl : l.length ≤ 4) (hf : Sized 30000 l) (hs : Sized 2000000 v) {cnt : Int} (hc : 0 ≤ cnt) (hc' : cnt ≤ 1000000000) (K : List Int → Int → Option R) :
    f_impl_ZeroMany_1 k v l cnt K = K l (cnt + zp l v) := by
  have hsz : Sz v := fun x hx => by have := hs x hx; omega
  have w : IntKind.wrap .i64 (cnt + 1) = cnt + 1 := wrap_id (by omega) (by omega)
  simp only [f_impl_ZeroMany_1, f_impl_pair_dot (show 5 ≤ k by omega) hv hv hf hs hs hl, dot_qf, f_impl_gcd_eq (show 200 ≤ k by omega) hsz (show v.length < 200 by omega), w]
  unfold zp
  by_cases h1 : qf l v = 0
  · by_cases h2 : gcdL v = 0
    · simp only [h1, h2, show ((0 : Nat) : Int) = 0 from rfl, decide_true, cond_true, Bool.not_true, cond_false, ne_eq, not_true_eq_false, false_and, and_false, if_false, Int.add_zero]
    · simp only [h1, show ¬ ((gcdL v : Nat) : Int) = 0 by omega, h2, decide_true, decide_false, cond_true, Bool.not_false, f_impl_plain_eq hk hsz (show v.length < 200 by omega) h2, f_slices_Equal_eq (show (plainL v).length < k by unfold plainL; rw [List.length_map]; omega) (show (plainL v).length < 4611686018427387904 by unfold plainL; rw [List.length_map]; omega), ne_eq, not_false_eq_true, true_and]
      by_cases h3 : plainL v = v
      · simp only [h3, decide_true, cond_true, if_true]
      · simp only [h3, decide_false, cond_false, if_false, Int.add_zero]
  · simp only [h1, decide_false, cond_false, false_and, if_false, Int.add_zero]

theorem sumV_bound {n : Int} (hn : n ≤ 7) : ∀ (m : Nat) {f : List Int → Int}, (∀ v, 0 ≤ f v ∧ f v ≤ 1) → 0 ≤ sumV n m f ∧ sumV n m f ≤ 20 ^ m
  | 0, f, h => by have := h []; simp only [sumV, Int.pow_zero]; exact this
  | m + 1, f, h => by
    have ih := sumR_bound (g := fun x => sumV n m fun v => f (x :: v)) (B := 20 ^ m) (fun x => sumV_bound hn m fun v => h (x :: v)) (2 * n + 1).toNat (-n)
    have hp : (0 : Int) < 20 ^ m := Int.pow_pos (by decide)
    have hc : ((2 * n + 1).toNat : Int) ≤ 20 := by omega
    have := Int.mul_le_mul_of_nonneg_right hc (Int.le_of_lt hp)
    simp only [sumV, Int.pow_succ]
    omega

theorem take_next {l : List Int} {i : Nat} (h : i < l.length) : l.take (i + 1) = l.take i ++ [l.getD i 0] := by
  rw [List.take_succ_eq_append_getElem h, List.getD_eq_getElem?_getD, List.getElem?_eq_getElem h]
  rfl

abbrev Rz (R : Type) := Int → Int → Int → List Int → Int → List Int → (Int → Int → List Int → Int → List Int → Option R) → Option R

theorem zvec_loop {R : Type} {k : Nat} {fm : List Int} {n : Int} (hn : n ≤ 7) (hm : fm.length ≤ 4) (rc : Rz R) (i r : Nat) (hi : i + r + 1 = fm.length)
    (hrc : ∀ (v : List Int) (cnt : Int), v.length = fm.length → Sized 2000000 v → 0 ≤ cnt → cnt + 20 ^ r ≤ 1000000000 → ∃ v', v'.length = fm.length ∧ Sized 2000000 v' ∧ v'.take (i + 1) = v.take (i + 1) ∧
      ∀ K, rc ((i + 1 : Nat) : Int) (fm.length : Int) n fm cnt v K = K (fm.length : Int) n fm (cnt + sumV n r fun w => zp fm (v.take (i + 1) ++ w)) v') :
    ∀ (j fuel : Nat) (v : List Int) (cnt x : Int), j < fuel → v.length = fm.length → Sized 2000000 v → v.getD i 0 = x → x + j = n + 1 → -7 ≤ x → 0 ≤ cnt → cnt + j * 20 ^ r ≤ 1000000000 →
      ∃ v', v'.length = fm.length ∧ Sized 2000000 v' ∧ v'.take i = v.take i ∧ ∀ K0, l_impl_vectors_1a_3 k rc fuel (i : Int) v (fm.length : Int) n fm cnt K0 =
        K0 v' (fm.length : Int) n fm (cnt + sumR x j (fun y => sumV n r fun w => zp fm (v.take i ++ y :: w))) := by
  intro j
  induction j with
  | zero =>
    intro fuel v cnt x hf hl hs hx hj h7 hc hb
    obtain ⟨f, rfl⟩ : ∃ f, fuel = f + 1 := ⟨fuel - 1, by omega⟩
    refine ⟨v, hl, hs, rfl, fun K0 => ?_⟩
    simp only [l_impl_vectors_1a_3, Int.toNat_natCast, hx, show (i : Int) < (v.length : Int) by omega, show (0 : Int) ≤ (i : Int) by omega, show ¬ x ≤ n by omega, decide_true, decide_false, cond_true, cond_false, Bool.and_self, sumR, Int.add_zero]
  | succ j ih =>
    intro fuel v cnt x hf hl hs hx hj h7 hc hb
    obtain ⟨f, rfl⟩ : ∃ f, fuel = f + 1 := ⟨fuel - 1, by omega⟩
    have hp : (0 : Int) < 20 ^ r := Int.pow_pos (by decide)
    have e : ((j + 1 : Nat) : Int) * 20 ^ r = j * 20 ^ r + 20 ^ r := by
      rw [show ((j + 1 : Nat) : Int) = (j : Int) + 1 by omega, Int.add_mul, Int.one_mul]
    have hjp : (0 : Int) ≤ j * 20 ^ r := Int.mul_nonneg (by omega) (by omega)
    obtain ⟨v', h1, h2, h3, h4⟩ := hrc v cnt hl hs hc (by omega)
    have hvi : v'.getD i 0 = x := by
      have h := congrArg (fun l => l.getD i 0) h3
      simp only [List.getD_eq_getElem?_getD, List.getElem?_take, show i < i + 1 by omega, if_true] at h hx ⊢
      rw [h, hx]
    have h3' : v'.take i = v.take i := by
      have h := congrArg (fun l => l.take i) h3
      simpa [List.take_take, Nat.min_eq_left (show i ≤ i + 1 by omega)] using h
    have wb := sumV_bound (n := n) hn r (f := fun w => zp fm (v.take (i + 1) ++ w)) fun w => zp_bound fm _
    have w1 : IntKind.wrap .i64 (x + 1) = x + 1 := wrap_id (by omega) (by omega)
    have w2 : IntKind.wrap .i64 ((i : Int) + 1) = ((i + 1 : Nat) : Int) := by rw [wrap_id (by omega) (by omega)]; omega
    have hil : i < v'.length := by omega
    obtain ⟨v'', g1, g2, g3, g4⟩ := ih f (v'.set i (x + 1)) (cnt + sumV n r fun w => zp fm (v.take (i + 1) ++ w)) (x + 1) (by omega) (by simpa using h1) (fun y hy => by
      rcases List.mem_or_eq_of_mem_set hy with h | h
      · exact h2 y h
      · subst h; omega) (by rw [List.getD_eq_getElem?_getD, List.getElem?_set]; simp [hil]) (by omega) (by omega) (by omega) (by omega)
    have htake : (v'.set i (x + 1)).take i = v.take i := by rw [List.take_set_of_le (Nat.le_refl i), h3']
    refine ⟨v'', g1, g2, g3.trans htake, fun K0 => ?_⟩
    simp only [l_impl_vectors_1a_3, Int.toNat_natCast, hx, hvi, w1, w2, show (i : Int) < (v.length : Int) by omega, show (i : Int) < (v'.length : Int) by omega, show (0 : Int) ≤ (i : Int) by omega, show x ≤ n by omega, decide_true, cond_true, Bool.and_self, h4]
    rw [g4 K0, htake, take_next (l := v) (i := i) (by omega), hx]
    simp only [sumR, Int.add_assoc, List.append_assoc, List.singleton_append]

theorem zvec_ways {R : Type} {k : Nat} (hk : 1000 ≤ k) {fm : List Int} {n : Int} (hn0 : 0 ≤ n) (hn : n ≤ 7) (hm : fm.length ≤ 4) (hfs : Sized 30000 fm) :
    ∀ (r i d : Nat) (v : List Int) (cnt : Int), i + r = fm.length → r < d → v.length = fm.length → Sized 2000000 v → 0 ≤ cnt → cnt + 20 ^ r ≤ 1000000000 →
      ∃ v', v'.length = fm.length ∧ Sized 2000000 v' ∧ v'.take i = v.take i ∧
        ∀ K, f_impl_vectors_1a (R := R) k d (i : Int) (fm.length : Int) n fm cnt v K = K (fm.length : Int) n fm (cnt + sumV n r fun w => zp fm (v.take i ++ w)) v' := by
  intro r
  induction r with
  | zero =>
    intro i d v cnt hi hd hl hs hc hb
    obtain ⟨d, rfl⟩ : ∃ e, d = e + 1 := ⟨d - 1, by omega⟩
    have e3 : v.take i = v := List.take_of_length_le (by omega)
    refine ⟨v, hl, hs, rfl, fun K => ?_⟩
    have hb : cnt ≤ 1000000000 := by have : (20 : Int) ^ 0 = 1 := rfl; omega
    rw [e3]
    simp only [f_impl_vectors_1a, show (i : Int) = (fm.length : Int) by omega, decide_true, cond_true, f_impl_ZeroMany_1_eq hk hl hm hfs hs hc hb, sumV, List.append_nil]
  | succ r ih =>
    intro i d v cnt hi hd hl hs hc hb
    obtain ⟨d, rfl⟩ : ∃ e, d = e + 1 := ⟨d - 1, by omega⟩
    have w1 : IntKind.wrap .i64 (0 - n) = -n := by rw [wrap_id (by omega) (by omega)]; omega
    have hp : (0 : Int) < 20 ^ r := Int.pow_pos (by decide)
    have e20 : (20 : Int) ^ (r + 1) = 20 ^ r * 20 := Int.pow_succ ..
    have hj : (((2 * n + 1).toNat : Nat) : Int) = 2 * n + 1 := by omega
    have hjb := Int.mul_le_mul_of_nonneg_right (show (((2 * n + 1).toNat : Nat) : Int) ≤ 20 by omega) (Int.le_of_lt hp)
    have hil : i < v.length := by omega
    obtain ⟨v', g1, g2, g3, g4⟩ := zvec_loop (R := R) (k := k) hn hm (f_impl_vectors_1a k d) i r (by omega) (fun v cnt a b c e => ih (i + 1) d v cnt (by omega) (by omega) a b c e) (2 * n + 1).toNat k (v.set i (-n)) cnt (-n) (by omega) (by simpa using hl)
      (fun y hy => by
        rcases List.mem_or_eq_of_mem_set hy with h | h
        · exact hs y h
        · subst h; omega) (by rw [List.getD_eq_getElem?_getD, List.getElem?_set]; simp [hil]) (by omega) (by omega) hc (by omega)
    have htake : (v.set i (-n)).take i = v.take i := List.take_set_of_le (Nat.le_refl i)
    refine ⟨v', g1, g2, g3.trans htake, fun K => ?_⟩
    simp only [f_impl_vectors_1a, show ¬ (i : Int) = (fm.length : Int) by omega, Int.toNat_natCast, w1, show (i : Int) < (v.length : Int) by omega, show (0 : Int) ≤ (i : Int) by omega, decide_true, decide_false, cond_true, cond_false, Bool.and_self]
    rw [g4, htake]
    rfl

theorem Valid.sized {l : List Int} (h : Valid l) : Sized 30000 l := fun x hx => by have := h.t x hx; omega

theorem f_impl_vectorsa_eq {R : Type} {k : Nat} (hk : 1000 ≤ k) {fm : List Int} {n : Int} (hn0 : 0 ≤ n) (hn : n ≤ 7) (hm : fm.length ≤ 4) (hfs : Sized 30000 fm) (K : List Int → Int → Option R) :
    f_impl_vectorsa k (fm.length : Int) n fm 0 K = K fm (sumV n fm.length fun w => zp fm w) := by
  have hp : (20 : Int) ^ fm.length ≤ 160000 := by
    have : fm.length = 0 ∨ fm.length = 1 ∨ fm.length = 2 ∨ fm.length = 3 ∨ fm.length = 4 := by omega
    rcases this with h | h | h | h | h <;> rw [h] <;> decide
  obtain ⟨v', _, _, _, h⟩ := zvec_ways (R := R) hk hn0 hn hm hfs fm.length 0 k (List.replicate fm.length 0) 0 (by omega) (by omega) (by simp) (fun x hx => by rw [List.mem_replicate] at hx; omega) (by omega) (by omega)
  have e0 : (decide ((0 : Int) ≤ (fm.length : Int)) && decide ((fm.length : Int) ≤ (fm.length : Int)) && decide ((fm.length : Int) ≤ 4294967296)) = true := by
    rw [Bool.and_eq_true, Bool.and_eq_true, decide_eq_true_eq, decide_eq_true_eq, decide_eq_true_eq]; omega
  have h' := h (fun r1 r2 r3 r4 r5 => K r3 r4)
  simp only [List.take_zero, List.nil_append, Int.zero_add, show ((0 : Nat) : Int) = 0 from rfl] at h'
  simp only [f_impl_vectorsa, e0, cond_true, Int.toNat_natCast]
  exact h'

theorem f_impl_ZeroMany_eq {R : Type} {k : Nat} (hk : 1000 ≤ k) {fm : List Int} (h : Valid fm) {n : Int} (hn0 : 1 ≤ n) (hn : n ≤ 6) (K : Int → Option R) : f_impl_ZeroMany k fm n K = K (sumV n fm.length fun w => zp fm w) := by
  have hhi := h.hi
  have hv : validL fm = true := valid_iff.2 h
  simp only [f_impl_ZeroMany, f_impl_FormValid_eq h.sz (show fm.length < k by omega) (show fm.length < 4611686018427387904 by omega), hv, Bool.not_true, cond_false, show ¬ n < 1 by omega, show ¬ 6 < n by omega, decide_false, f_impl_vectorsa_eq hk (show 0 ≤ n by omega) (show n ≤ 7 by omega) h.hi h.sized]

theorem f_impl_vectors_eq {R : Type} {k : Nat} (hk : 20 ≤ k) {fm : List Int} {t n : Int} (hn0 : 0 ≤ n) (hn : n ≤ 7) (hm : fm.length ≤ 4) (hfs : Sized 30000 fm) (K : List Int → Int → Int → Option R) :
    f_impl_vectors k (fm.length : Int) n fm t 0 K = K fm t (many n t fm) := by
  have hp : (20 : Int) ^ fm.length ≤ 160000 := by
    have : fm.length = 0 ∨ fm.length = 1 ∨ fm.length = 2 ∨ fm.length = 3 ∨ fm.length = 4 := by omega
    rcases this with h | h | h | h | h <;> rw [h] <;> decide
  obtain ⟨v', _, _, _, h⟩ := f_impl_vectors_1_ways (R := R) hk (t := t) hn0 hn hm hfs fm.length 0 k (List.replicate fm.length 0) 0 (by omega) (by omega) (by simp) (fun x hx => by rw [List.mem_replicate] at hx; omega) (by omega) (by omega)
  have e0 : (decide ((0 : Int) ≤ (fm.length : Int)) && decide ((fm.length : Int) ≤ (fm.length : Int)) && decide ((fm.length : Int) ≤ 4294967296)) = true := by
    rw [Bool.and_eq_true, Bool.and_eq_true, decide_eq_true_eq, decide_eq_true_eq, decide_eq_true_eq]; omega
  simp only [f_impl_vectors, e0, cond_true, Int.toNat_natCast]
  have h' := h (fun r1 r2 r3 r4 r5 r6 => K r3 r4 r5)
  simp only [List.drop_zero, List.take_zero, dot, Int.zero_add, ways_eq, show ((0 : Nat) : Int) = 0 from rfl] at h'
  exact h'

/-- The number of vectors that ValueMany tells. -/
def manyL (l : List Int) (t n : Int) : Int := if validL l = true ∧ -1000 ≤ t ∧ t ≤ 1000 ∧ 1 ≤ n ∧ n ≤ 6 then many n t l else -1

theorem f_impl_ValueMany_eq {R : Type} {k : Nat} (hk : 1000 ≤ k) {l : List Int} (hs : Sz l) (hl : l.length < 1000) (t n : Int) (K : Int → Option R) : f_impl_ValueMany k l t n K = K (manyL l t n) := by
  simp only [f_impl_ValueMany, f_impl_FormValid_eq hs (show l.length < k by omega) (show l.length < 4611686018427387904 by omega)]
  unfold manyL
  cases hv : validL l with
  | false => simp
  | true =>
    have h := valid_iff.1 hv
    simp only [Bool.not_true, cond_false, true_and]
    by_cases h1 : t < -1000
    · simp only [h1, decide_true, cond_true, show ¬ -1000 ≤ t by omega, false_and, if_false]
    by_cases h2 : 1000 < t
    · simp only [h1, h2, decide_true, decide_false, cond_true, cond_false, show ¬ t ≤ 1000 by omega, false_and, and_false, if_false]
    by_cases h3 : n < 1
    · simp only [h1, h2, h3, decide_true, decide_false, cond_true, cond_false, show ¬ 1 ≤ n by omega, false_and, and_false, if_false]
    by_cases h4 : 6 < n
    · simp only [h1, h2, h3, h4, decide_true, decide_false, cond_true, cond_false, show ¬ n ≤ 6 by omega, and_false, if_false]
    · simp only [h1, h2, h3, h4, decide_false, cond_false, f_impl_vectors_eq (show 20 ≤ k by omega) (show 0 ≤ n by omega) (show n ≤ 7 by omega) h.hi h.sized, show -1000 ≤ t by omega, show t ≤ 1000 by omega, show 1 ≤ n by omega, show n ≤ 6 by omega, and_self, if_true]

/- The reference's side -/
theorem f_spec_l6In_eq {R : Type} (k : Nat) (n lo hi : Int) (K : Bool → Option R) : f_spec_l6In k n lo hi K = K (decide (lo ≤ n) && decide (n ≤ hi)) := by
  simp only [f_spec_l6In]
  by_cases h : lo ≤ n
  · simp only [h, decide_true, cond_true, Bool.true_and]
  · simp only [h, decide_false, cond_false, Bool.false_and]

theorem svalid_loop {R : Type} (k : Nat) {l : List Int} (hl : l.length < 4611686018427387904) : ∀ (j i fuel : Nat), i + j = l.length → j < fuel → ∀ (K0 : Bool → Option R) (K1 : List Int → Option R),
    l_spec_FormValid_2 k fuel l (i : Int) K0 K1 = cond ((l.drop i).all okT) (K1 l) (K0 false)
  | 0, i, fuel, hi, hf, K0, K1 => by
    obtain ⟨g, rfl⟩ : ∃ g, fuel = g + 1 := ⟨fuel - 1, by omega⟩
    have : l.drop i = [] := List.drop_eq_nil_of_le (by omega)
    simp only [l_spec_FormValid_2, show ¬ (i : Int) < (l.length : Int) by omega, decide_false, cond_false, this, List.all_nil, cond_true]
  | j + 1, i, fuel, hi, hf, K0, K1 => by
    obtain ⟨g, rfl⟩ : ∃ g, fuel = g + 1 := ⟨fuel - 1, by omega⟩
    have hil : i < l.length := by omega
    rw [getD_drop hil]
    have ih := svalid_loop (R := R) k hl j (i + 1) g (by omega) (by omega) K0 K1
    generalize ht : l.getD i 0 = t at *
    simp only [l_spec_FormValid_2, show (i : Int) < (l.length : Int) by omega, show (0 : Int) ≤ (i : Int) by omega, Int.toNat_natCast, ht, decide_true, cond_true, Bool.and_self, f_spec_l6In_eq, add_one (show i < 4611686018427387904 by omega), ih, List.all_cons, okT]
    by_cases h0 : t = 0
    · simp only [h0, decide_true, cond_true, Bool.not_true, Bool.false_and, cond_false]
    · simp only [h0, decide_false, cond_false, Bool.not_false, Bool.true_and]
      cases (decide (-30 ≤ t) && decide (t ≤ 30)) <;> simp

theorem f_spec_FormValid_eq {R : Type} {k : Nat} {l : List Int} (hk : l.length < k) (hl : l.length < 4611686018427387904) (K : Bool → Option R) : f_spec_FormValid k l K = K (validL l) := by
  have h := svalid_loop (R := R) k hl l.length 0 k (by omega) hk (fun y4 => K y4) (fun y5 => f_spec_l6In k (y5.length : Int) 1 4 (fun r6 => K r6))
  simp only [List.drop_zero, show ((0 : Nat) : Int) = 0 from rfl] at h
  unfold f_spec_FormValid
  refine (show _ = _ from h).trans ?_
  unfold validL
  cases l.all okT with
  | false => rfl
  | true =>
    simp only [cond_true, Bool.true_and, f_spec_l6In_eq]
    congr 2
    · exact decide_eq_decide.2 ⟨fun h => by omega, fun h => by omega⟩
    · exact decide_eq_decide.2 ⟨fun h => by omega, fun h => by omega⟩

theorem value_loop {R : Type} (k : Nat) {fm v : List Int} (hv : v.length = fm.length) (hf : Sized 30000 fm) (hs : Sized 2000000 v) (hm : fm.length ≤ 4) :
    ∀ (j i fuel : Nat) (acc : Int), i + j = fm.length → j < fuel → -(120000000000000000 * i) ≤ acc → acc ≤ 120000000000000000 * i → ∀ K0 : Int → Option R,
      l_spec_l4Value_3 k fuel fm v acc (i : Int) K0 = K0 (acc + qf (fm.drop i) (v.drop i)) := by
  intro j
  induction j with
  | zero =>
    intro i fuel acc hi hf' h1 h2 K0
    obtain ⟨f, rfl⟩ : ∃ f, fuel = f + 1 := ⟨fuel - 1, by omega⟩
    have : fm.drop i = [] := List.drop_eq_nil_of_le (by omega)
    simp only [l_spec_l4Value_3, show ¬ (i : Int) < (fm.length : Int) by omega, decide_false, cond_false, this, qf, Int.add_zero]
  | succ j ih =>
    intro i fuel acc hi hf' h1 h2 K0
    obtain ⟨f, rfl⟩ : ∃ f, fuel = f + 1 := ⟨fuel - 1, by omega⟩
    have hi1 : i < fm.length := by omega
    have b1 := hf _ (getD_mem hi1)
    have b2 := hs _ (getD_mem (l := v) (i := i) (by omega))
    have c1 := mul_bound b1 b2
    have c2 := mul_bound (A := 30000 * 2000000) (X := 2000000) (x := v.getD i 0) c1 b2
    rw [getD_drop hi1, getD_drop (l := v) (by omega)]
    simp only [qf]
    simp only [l_spec_l4Value_3, Int.toNat_natCast, show (i : Int) < (fm.length : Int) by omega, show (0 : Int) ≤ (i : Int) by omega, show (i : Int) < (v.length : Int) by omega, decide_true, cond_true, Bool.and_self]
    generalize fm.getD i 0 = a at *
    generalize v.getD i 0 = x at *
    have w1 : IntKind.wrap .i64 (a * x) = a * x := wrap_id (by omega) (by omega)
    have w2 : IntKind.wrap .i64 (a * x * x) = a * x * x := wrap_id (by omega) (by omega)
    have w3 : IntKind.wrap .i64 (acc + a * x * x) = acc + a * x * x := wrap_id (by omega) (by omega)
    rw [w1, w2, w3, add_one (show i < 4611686018427387904 by omega), ih (i + 1) f (acc + a * x * x) (by omega) (by omega) (by omega) (by omega) K0, Int.add_assoc]

theorem f_spec_l4Value_eq {R : Type} {k : Nat} (hk : 5 ≤ k) {fm v : List Int} (hv : v.length = fm.length) (hf : Sized 30000 fm) (hs : Sized 2000000 v) (hm : fm.length ≤ 4) (K : Int → Option R) : f_spec_l4Value k fm v K = K (qf fm v) := by
  have := value_loop (R := R) k hv hf hs hm fm.length 0 k 0 (by omega) (by omega) (by omega) (by omega) K
  simp only [Int.zero_add, List.drop_zero] at this
  exact this

abbrev Rm (R : Type) := List Int → List Int → Int → Int → (Int → Option R) → Option R

theorem smany_loop {R : Type} {k : Nat} {fm : List Int} {t n : Int} (hn : n ≤ 7) (hm : fm.length ≤ 4) (rc : Rm R) (v : List Int) (hv5 : v.length ≤ 4) (r : Nat)
    (hrc : ∀ x : Int, -7 ≤ x → x ≤ 7 → ∀ K, rc fm (v ++ [x]) t n K = K (sumV n r fun w => if qf fm (v ++ x :: w) = t then 1 else 0)) :
    ∀ (j fuel : Nat) (acc x : Int), j < fuel → x + j = n + 1 → -7 ≤ x → 0 ≤ acc → acc + j * 20 ^ r ≤ 1000000000 → ∀ K0 : Int → Option R,
      l_spec_l9Many_7 k rc fuel fm v t n acc x K0 = K0 (acc + sumR x j fun y => sumV n r fun w => if qf fm (v ++ y :: w) = t then 1 else 0) := by
  intro j
  induction j with
  | zero =>
    intro fuel acc x hf hj h7 hc hb K0
    obtain ⟨f, rfl⟩ : ∃ f, fuel = f + 1 := ⟨fuel - 1, by omega⟩
    simp only [l_spec_l9Many_7, show ¬ x ≤ n by omega, decide_false, cond_false, sumR, Int.add_zero]
  | succ j ih =>
    intro fuel acc x hf hj h7 hc hb K0
    obtain ⟨f, rfl⟩ : ∃ f, fuel = f + 1 := ⟨fuel - 1, by omega⟩
    have hp : (0 : Int) < 20 ^ r := Int.pow_pos (by decide)
    have e : ((j + 1 : Nat) : Int) * 20 ^ r = j * 20 ^ r + 20 ^ r := by
      rw [show ((j + 1 : Nat) : Int) = (j : Int) + 1 by omega, Int.add_mul, Int.one_mul]
    have hjp : (0 : Int) ≤ j * 20 ^ r := Int.mul_nonneg (by omega) (by omega)
    have wb := sumV_bound (n := n) hn r (f := fun w => if qf fm (v ++ x :: w) = t then 1 else 0) fun w => by split <;> omega
    have w1 : IntKind.wrap .i64 (x + 1) = x + 1 := wrap_id (by omega) (by omega)
    have hbig : (20 : Int) ^ r ≤ 1000000000 := by omega
    simp only [l_spec_l9Many_7, show x ≤ n by omega, decide_true, cond_true, List.nil_append, ble_lim (show 0 + v.length ≤ 4294967296 by omega), ble_lim (show v.length + 1 ≤ 4294967296 by omega), hrc x h7 (by omega), w1]
    rw [wrap_id (n := acc + sumV n r fun w => if qf fm (v ++ x :: w) = t then 1 else 0) (by omega) (by omega), ih f _ (x + 1) (by omega) (by omega) (by omega) (by omega) (by omega) K0]
    simp only [sumR, Int.add_assoc]

theorem f_spec_l9Many_eq {R : Type} {k : Nat} (hk : 20 ≤ k) {fm : List Int} {t n : Int} (hn0 : 0 ≤ n) (hn : n ≤ 7) (hm : fm.length ≤ 4) (hfs : Sized 30000 fm) :
    ∀ (r d : Nat) (v : List Int), v.length + r = fm.length → r < d → Sized 2000000 v → ∀ K : Int → Option R, f_spec_l9Many k d fm v t n K = K (sumV n r fun w => if qf fm (v ++ w) = t then 1 else 0) := by
  intro r
  induction r with
  | zero =>
    intro d v hi hd hs K
    obtain ⟨d, rfl⟩ : ∃ e, d = e + 1 := ⟨d - 1, by omega⟩
    simp only [f_spec_l9Many, show (v.length : Int) = (fm.length : Int) by omega, decide_true, cond_true, f_spec_l4Value_eq (show 5 ≤ k by omega) (show v.length = fm.length by omega) hfs hs hm, sumV, List.append_nil]
    by_cases h : qf fm v = t
    · simp only [h, decide_true, cond_true, if_true]
    · simp only [h, decide_false, cond_false, if_false]
  | succ r ih =>
    intro d v hi hd hs K
    obtain ⟨d, rfl⟩ : ∃ e, d = e + 1 := ⟨d - 1, by omega⟩
    have w1 : IntKind.wrap .i64 (0 - n) = -n := by rw [wrap_id (by omega) (by omega)]; omega
    have hp : (20 : Int) ^ r ≤ 160000 := by
      have : r = 0 ∨ r = 1 ∨ r = 2 ∨ r = 3 ∨ r = 4 := by omega
      rcases this with h | h | h | h | h <;> rw [h] <;> decide
    have hp0 : (0 : Int) < 20 ^ r := Int.pow_pos (by decide)
    have hjb := Int.mul_le_mul_of_nonneg_right (show (((2 * n + 1).toNat : Nat) : Int) ≤ 20 by omega) (Int.le_of_lt hp0)
    have hl := smany_loop (R := R) (k := k) (t := t) hn hm (f_spec_l9Many k d) v (by omega) r (fun x hx hx' K => by
      rw [ih d (v ++ [x]) (by simp; omega) (by omega) (fun y hy => by
        rcases List.mem_append.1 hy with hy | hy
        · exact hs y hy
        · rw [List.mem_singleton] at hy; subst hy; omega) K]
      simp only [List.append_assoc, List.singleton_append]) (2 * n + 1).toNat k 0 (-n) (by omega) (by omega) (by omega) (by omega) (by omega) K
    simp only [Int.zero_add] at hl
    simp only [f_spec_l9Many, show ¬ (v.length : Int) = (fm.length : Int) by omega, decide_false, cond_false, w1]
    exact hl

theorem f_spec_ValueMany_eq {R : Type} {k : Nat} (hk : 1000 ≤ k) {l : List Int} (hl : l.length < 1000) (t n : Int) (K : Int → Option R) : f_spec_ValueMany k l t n K = K (manyL l t n) := by
  simp only [f_spec_ValueMany, f_spec_FormValid_eq (show l.length < k by omega) (show l.length < 4611686018427387904 by omega), f_spec_l6In_eq]
  unfold manyL
  cases hv : validL l with
  | false => simp
  | true =>
    have h := valid_iff.1 hv
    simp only [Bool.not_true, cond_false, true_and]
    by_cases h1 : -1000 ≤ t <;> by_cases h2 : t ≤ 1000
    · by_cases h3 : 1 ≤ n <;> by_cases h4 : n ≤ 6
      · have := f_spec_l9Many_eq (R := R) (k := k) (t := t) (n := n) (by omega) (by omega) (by omega) h.hi h.sized l.length k [] (by simp) (by have := h.hi; omega) (fun x hx => by cases hx) (fun r4 => K r4)
        simp only [List.nil_append] at this
        simp only [h1, h2, h3, h4, decide_true, Bool.and_self, Bool.not_true, cond_false, and_self, if_true, this]
        rfl
      · simp [h1, h2, h3, h4]
      · simp [h1, h2, h3, h4]
      · simp [h1, h2, h3, h4]
    · simp [h1, h2]
    · simp [h1, h2]
    · simp [h1, h2]

theorem posV_plain {v : List Int} (h : plainL v = v) (hg : gcdL v ≠ 0) : posV v = true := by
  cases hp : posV v with
  | true => rfl
  | false =>
    exfalso
    have hz : zeroV v = false := by
      cases hz : zeroV v with
      | false => rfl
      | true => exact absurd (gcdL_zero.2 hz) hg
    have hs : sgnV v = -1 := by unfold sgnV; rw [hp, hz]; rfl
    have hmap : v.map (fun x => x.tdiv (-1 * ((gcdL v : Nat) : Int))) = v := by unfold plainL at h; rw [hs] at h; exact h
    -- the first integer that is not 0
    have key : ∀ w : List Int, w.map (fun x => x.tdiv (-1 * ((gcdL v : Nat) : Int))) = w → posV w = false → zeroV w = true := by
      intro w
      induction w with
      | nil => intro _ _; rfl
      | cons x r ih =>
        intro hm hpw
        simp only [List.map_cons, List.cons.injEq] at hm
        simp only [posV] at hpw
        by_cases hx : x = 0
        · rw [if_pos hx] at hpw
          simp only [zeroV, hx, decide_true, Bool.true_and]
          exact ih hm.2 hpw
        · rw [if_neg hx] at hpw
          have hneg : x < 0 := by simp at hpw; omega
          have : x.tdiv (-1 * ((gcdL v : Nat) : Int)) = -(x.tdiv ((gcdL v : Nat) : Int)) := by rw [show -1 * ((gcdL v : Nat) : Int) = -((gcdL v : Nat) : Int) by omega, Int.tdiv_neg]
          rw [this] at hm
          have h2 : x.tdiv ((gcdL v : Nat) : Int) = -((-x).tdiv ((gcdL v : Nat) : Int)) := by rw [Int.neg_tdiv]; omega
          have h3 : 0 ≤ (-x).tdiv ((gcdL v : Nat) : Int) := Int.tdiv_nonneg (by omega) (by omega)
          omega
    rw [key v hmap hp] at hz
    cases hz

theorem zp_le (l v : List Int) : zp l v ≤ if posV v then (if qf l v = 0 then 1 else 0) else 0 := by
  unfold zp
  split
  · rename_i h
    rw [posV_plain h.2.2 h.2.1, if_pos rfl, if_pos h.1]
    exact Int.le_refl _
  · split <;> (try split) <;> omega

end Go.Proofs.Ytmmadcccjicdcaa.E
