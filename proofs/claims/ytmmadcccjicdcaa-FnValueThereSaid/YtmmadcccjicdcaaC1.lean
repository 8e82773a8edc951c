/- What the program's functions on forms come to. -/
import Derived.Test.YtmmadcccjicdcaaC0
namespace Go.Proofs.Ytmmadcccjicdcaa.E
set_option linter.unusedVariables false
set_option linter.unusedSimpArgs false
set_option maxRecDepth 100000

theorem add_one {i : Nat} (h : i < 4611686018427387904) : IntKind.wrap .i64 ((i : Int) + 1) = ((i + 1 : Nat) : Int) := by rw [wrap_id (by omega) (by omega)]; omega

theorem f_impl_size_eq {R : Type} (k : Nat) {n : Int} (h : n.natAbs < 9223372036854775808) (K : Int → Option R) : f_impl_size k n K = K (n.natAbs : Nat) := by
  have w : IntKind.wrap .i64 (0 - n) = -n := by rw [wrap_id (by omega) (by omega)]; omega
  simp only [f_impl_size, w]
  by_cases h1 : n < -n
  · simp only [h1, decide_true, cond_true]; congr 1; omega
  · simp only [h1, decide_false, cond_false]; congr 1; omega

/-- A term of a form. -/
def okT (t : Int) : Bool := !decide (t = 0) && (decide (-30 ≤ t) && decide (t ≤ 30))
def validL (l : List Int) : Bool := l.all okT && (decide (1 ≤ l.length) && decide (l.length ≤ 4))
def Sz (l : List Int) : Prop := ∀ x ∈ l, x.natAbs < 9223372036854775808

theorem valid_loop {R : Type} (k : Nat) {l l1 : List Int} (hs : Sz l) : ∀ (j i fuel : Nat), i + j = l.length → l.length < 4611686018427387904 → j < fuel → ∀ (K0 : Bool → Option R) (K1 : List Int → Option R),
    l_impl_FormValid_2 k fuel l1 l (l.length : Int) (i : Int) K0 K1 = cond ((l.drop i).all okT) (K1 l1) (K0 false)
  | 0, i, fuel, hi, hl, hf, K0, K1 => by
    obtain ⟨g, rfl⟩ : ∃ g, fuel = g + 1 := ⟨fuel - 1, by omega⟩
    have : l.drop i = [] := List.drop_eq_nil_of_le (by omega)
    simp only [l_impl_FormValid_2, show ¬ (i : Int) < (l.length : Int) by omega, decide_false, cond_false, this, List.all_nil, cond_true]
  | j + 1, i, fuel, hi, hl, hf, K0, K1 => by
    obtain ⟨g, rfl⟩ : ∃ g, fuel = g + 1 := ⟨fuel - 1, by omega⟩
    have hil : i < l.length := by omega
    have hx := hs _ (getD_mem hil)
    rw [getD_drop hil]
    have ih := valid_loop (R := R) k (l1 := l1) hs j (i + 1) g (by omega) hl (by omega) K0 K1
    generalize ht : l.getD i 0 = t at *
    simp only [l_impl_FormValid_2, show (i : Int) < (l.length : Int) by omega, show (0 : Int) ≤ (i : Int) by omega, Int.toNat_natCast, ht, decide_true, cond_true, Bool.and_self, f_impl_size_eq k hx, add_one (show i < 4611686018427387904 by omega), ih, List.all_cons]
    by_cases h0 : t = 0
    · have : okT t = false := by subst h0; rfl
      rw [this]
      simp only [h0, decide_true, cond_true, Bool.false_and, cond_false]
    · by_cases h1 : 30 < ((t.natAbs : Nat) : Int)
      · have : okT t = false := by
          unfold okT
          rcases (show t < -30 ∨ 30 < t by omega) with h | h
          · rw [decide_eq_false (p := -30 ≤ t) (by omega), Bool.false_and, Bool.and_false]
          · rw [decide_eq_false (p := t ≤ 30) (by omega), Bool.and_false, Bool.and_false]
        rw [this]
        simp only [h0, h1, decide_true, decide_false, cond_true, cond_false, Bool.false_and]
      · have : okT t = true := by
          unfold okT
          rw [decide_eq_true (p := -30 ≤ t) (by omega), decide_eq_true (p := t ≤ 30) (by omega), decide_eq_false h0]
          rfl
        rw [this]
        simp only [h0, h1, decide_false, cond_false, Bool.true_and]

theorem f_impl_FormValid_eq {R : Type} {k : Nat} {l : List Int} (hs : Sz l) (hk : l.length < k) (hl : l.length < 4611686018427387904) (K : Bool → Option R) : f_impl_FormValid k l K = K (validL l) := by
  have h := valid_loop (R := R) k (l1 := l) hs l.length 0 k (by omega) hl hk (fun y6 => K y6) (fun y7 => cond (decide (1 ≤ (y7.length : Int))) (K (decide ((y7.length : Int) ≤ 4))) (K false))
  simp only [List.drop_zero] at h
  unfold f_impl_FormValid
  refine (show _ = _ from h).trans ?_
  unfold validL
  cases l.all okT with
  | false => rfl
  | true =>
    simp only [cond_true, Bool.true_and]
    by_cases h1 : 1 ≤ l.length
    · rw [decide_eq_true (p := 1 ≤ (l.length : Int)) (by omega), decide_eq_true h1]
      simp only [cond_true, Bool.true_and]
      congr 1
      exact decide_eq_decide.2 ⟨fun h => by omega, fun h => by omega⟩
    · rw [decide_eq_false (p := 1 ≤ (l.length : Int)) (by omega), decide_eq_false h1]
      rfl

/-- A valid form. -/
structure Valid (l : List Int) : Prop where
  t : ∀ x ∈ l, x ≠ 0 ∧ -30 ≤ x ∧ x ≤ 30
  lo : 1 ≤ l.length
  hi : l.length ≤ 4

theorem valid_iff {l : List Int} : validL l = true ↔ Valid l := by
  unfold validL
  rw [Bool.and_eq_true, Bool.and_eq_true, decide_eq_true_eq, decide_eq_true_eq, List.all_eq_true]
  constructor
  · rintro ⟨h1, h2, h3⟩
    refine ⟨fun x hx => ?_, h2, h3⟩
    have := h1 x hx
    unfold okT at this
    simp only [Bool.and_eq_true, Bool.not_eq_true', decide_eq_true_eq, decide_eq_false_iff_not] at this
    exact this
  · intro h
    refine ⟨fun x hx => ?_, h.lo, h.hi⟩
    have := h.t x hx
    unfold okT
    simp only [Bool.and_eq_true, Bool.not_eq_true', decide_eq_true_eq, decide_eq_false_iff_not]
    exact this

/-- Terms: what a form and a value may have. -/
def Tm (l : List Int) : Prop := ∀ x ∈ l, x ≠ 0 ∧ -30 ≤ x ∧ x ≤ 30

theorem Tm.prod_le : ∀ {l : List Int}, Tm l → (prodL l).natAbs ≤ 30 ^ l.length ∧ prodL l ≠ 0
  | [], _ => by simp [prodL]
  | a :: r, h => by
    obtain ⟨h1, h2⟩ := Tm.prod_le (l := r) fun x hx => h x (List.mem_cons_of_mem _ hx)
    obtain ⟨h3, h4, h5⟩ := h a (by simp)
    refine ⟨?_, Int.mul_ne_zero h3 h2⟩
    show (a * prodL r).natAbs ≤ 30 ^ (r.length + 1)
    rw [Int.natAbs_mul, Nat.pow_succ, Nat.mul_comm (30 ^ r.length)]
    exact Nat.mul_le_mul (by omega) h1

theorem Tm.fine : ∀ {l : List Int}, Tm l → l.length ≤ 5 → Fine l
  | [], _, _ => trivial
  | a :: r, h, hl => by
    have hr : Tm r := fun x hx => h x (List.mem_cons_of_mem _ hx)
    refine ⟨(h a (by simp)).1, ?_, Tm.fine hr (by simp at hl; omega)⟩
    have := (Tm.prod_le h).1
    have h2 : 30 ^ (a :: r).length ≤ 30 ^ 5 := Nat.pow_le_pow_right (by decide) hl
    have : (a * prodL r).natAbs ≤ 30 ^ (a :: r).length := this
    omega

theorem Tm.sm {l : List Int} (h : Tm l) : ∀ x ∈ l, Sm x := fun x hx => by
  obtain ⟨h1, h2, h3⟩ := h x hx
  exact ⟨h1, by omega⟩

theorem product_loop {R : Type} (k : Nat) {l : List Int} (h : Tm l) : ∀ (j i fuel : Nat) (acc : Int), i + j = l.length → l.length < 4611686018427387904 → j < fuel → acc.natAbs * 30 ^ j ≤ 1000000000 → ∀ K0 : Int → Option R,
    l_impl_product_3 k fuel acc l (l.length : Int) (i : Int) K0 = K0 (acc * prodL (l.drop i))
  | 0, i, fuel, acc, hi, hl, hf, hb, K0 => by
    obtain ⟨g, rfl⟩ : ∃ g, fuel = g + 1 := ⟨fuel - 1, by omega⟩
    have : l.drop i = [] := List.drop_eq_nil_of_le (by omega)
    simp only [l_impl_product_3, show ¬ (i : Int) < (l.length : Int) by omega, decide_false, cond_false, this, prodL, Int.mul_one]
  | j + 1, i, fuel, acc, hi, hl, hf, hb, K0 => by
    obtain ⟨g, rfl⟩ : ∃ g, fuel = g + 1 := ⟨fuel - 1, by omega⟩
    have hil : i < l.length := by omega
    obtain ⟨_, h2, h3⟩ := h _ (getD_mem hil)
    rw [getD_drop hil]
    generalize ht : l.getD i 0 = t at *
    have hab : (acc * t).natAbs = acc.natAbs * t.natAbs := Int.natAbs_mul ..
    have h5 : acc.natAbs * t.natAbs ≤ acc.natAbs * 30 := Nat.mul_le_mul_left _ (by omega)
    have hp : 0 < 30 ^ j := Nat.pow_pos (by decide)
    have h6 : (acc * t).natAbs * 30 ^ j ≤ acc.natAbs * 30 * 30 ^ j := Nat.mul_le_mul_right _ (by omega)
    rw [Nat.pow_succ, Nat.mul_comm (30 ^ j), ← Nat.mul_assoc] at hb
    have h7 : (acc * t).natAbs * 1 ≤ (acc * t).natAbs * 30 ^ j := Nat.mul_le_mul_left _ hp
    have w : IntKind.wrap .i64 (acc * t) = acc * t := wrap_abs (by omega)
    simp only [l_impl_product_3, show (i : Int) < (l.length : Int) by omega, show (0 : Int) ≤ (i : Int) by omega, Int.toNat_natCast, ht, decide_true, cond_true, Bool.and_self, w, add_one (show i < 4611686018427387904 by omega)]
    rw [product_loop k h j (i + 1) g (acc * t) (by omega) hl (by omega) (by omega) K0, prodL, Int.mul_assoc]

theorem f_impl_product_eq {R : Type} {k : Nat} (hk : 10 ≤ k) {l : List Int} (h : Tm l) (hl : l.length ≤ 5) (K : Int → Option R) : f_impl_product k l K = K (prodL l) := by
  have h30 : 30 ^ l.length ≤ 30 ^ 5 := Nat.pow_le_pow_right (by decide) hl
  have := product_loop (R := R) k h l.length 0 k 1 (by omega) (by omega) (by omega) (by simp; omega) (fun y5 => K y5)
  simp only [List.drop_zero, Int.one_mul] at this
  exact this

theorem less_loop {R : Type} (k : Nat) {l : List Int} : ∀ (j i fuel acc : Nat), i + j = l.length → l.length < 4611686018427387904 → j < fuel → acc + j < 4611686018427387904 → ∀ K0 : Int → Option R,
    l_impl_lessTerms_3 k fuel (acc : Int) l (l.length : Int) (i : Int) K0 = K0 ((acc + lessL (l.drop i) : Nat) : Int)
  | 0, i, fuel, acc, hi, hl, hf, hb, K0 => by
    obtain ⟨g, rfl⟩ : ∃ g, fuel = g + 1 := ⟨fuel - 1, by omega⟩
    have : l.drop i = [] := List.drop_eq_nil_of_le (by omega)
    simp only [l_impl_lessTerms_3, show ¬ (i : Int) < (l.length : Int) by omega, decide_false, cond_false, this, lessL, Nat.add_zero]
  | j + 1, i, fuel, acc, hi, hl, hf, hb, K0 => by
    obtain ⟨g, rfl⟩ : ∃ g, fuel = g + 1 := ⟨fuel - 1, by omega⟩
    have hil : i < l.length := by omega
    rw [getD_drop hil]
    generalize ht : l.getD i 0 = t at *
    simp only [l_impl_lessTerms_3, show (i : Int) < (l.length : Int) by omega, show (0 : Int) ≤ (i : Int) by omega, Int.toNat_natCast, ht, decide_true, cond_true, Bool.and_self, add_one (show i < 4611686018427387904 by omega), add_one (show acc < 4611686018427387904 by omega), lessL]
    by_cases h : t < 0
    · simp only [h, decide_true, cond_true, if_true]
      rw [less_loop k j (i + 1) g (acc + 1) (by omega) hl (by omega) (by omega) K0, Nat.add_assoc]
    · simp only [h, decide_false, cond_false, if_false]
      rw [less_loop k j (i + 1) g acc (by omega) hl (by omega) (by omega) K0, Nat.zero_add]

theorem f_impl_lessTerms_eq {R : Type} {k : Nat} {l : List Int} (hk : l.length < k) (hl : l.length ≤ 1000) (K : Int → Option R) : f_impl_lessTerms k l K = K (lessL l : Nat) := by
  have := less_loop (R := R) k (l := l) l.length 0 k 0 (by omega) (by omega) (by omega) (by omega) (fun y5 => K y5)
  simp only [List.drop_zero, Nat.zero_add] at this
  exact this

theorem cast_lit : ((0 : Nat) : Int) = 0 ∧ ((1 : Nat) : Int) = 1 ∧ ((2 : Nat) : Int) = 2 ∧ ((3 : Nat) : Int) = 3 ∧ ((4 : Nat) : Int) = 4 := ⟨rfl, rfl, rfl, rfl, rfl⟩

/-- The inner loop of invariant: the terms ahead. -/
theorem inv_inner {R : Type} {k : Nat} (hk : 5100 ≤ k) {p : Int} (hp : Plc p) {a : Int} (ha : Sm a) {l l4 : List Int} {n5 n6 : Int} : ∀ (xs : List Int), (∀ x ∈ xs, Sm x) → xs.length ≤ 4 → ∀ (j i fuel : Nat) (s : Bool), i + j = xs.length → j < fuel → ∀ K0 : List Int → Int → Int → List Int → Int → Int → Option R,
    l_impl_invariant_6 k fuel l p (sg s) a l4 n5 n6 xs (xs.length : Int) (i : Int) K0 = K0 l p (sg (s ^^ symL a p (xs.drop i))) l4 n5 n6 := by
  intro xs hxs hl j
  induction j with
  | zero =>
    intro i fuel s hi hf K0
    obtain ⟨g, rfl⟩ : ∃ g, fuel = g + 1 := ⟨fuel - 1, by omega⟩
    have : xs.drop i = [] := List.drop_eq_nil_of_le (by omega)
    simp only [l_impl_invariant_6, show ¬ (i : Int) < (xs.length : Int) by omega, decide_false, cond_false, this, symL, Bool.xor_false]
  | succ j ih =>
    intro i fuel s hi hf K0
    obtain ⟨g, rfl⟩ : ∃ g, fuel = g + 1 := ⟨fuel - 1, by omega⟩
    have hil : i < xs.length := by omega
    have hx := hxs _ (getD_mem hil)
    rw [getD_drop hil]
    generalize ht : xs.getD i 0 = t at *
    simp only [l_impl_invariant_6, show (i : Int) < (xs.length : Int) by omega, show (0 : Int) ≤ (i : Int) by omega, Int.toNat_natCast, ht, decide_true, cond_true, Bool.and_self, add_one (show i < 4611686018427387904 by omega), f_impl_symbol_eq hk ha hx hp, sg_mul, sg_wrap]
    rw [ih (i + 1) g (s ^^ symb a t p) (by omega) (by omega) K0]
    simp only [symL, symb_comm a t p, Bool.xor_assoc]

/-- The product of the symbols of pairs, as the program goes through them. -/
def invR (p : Int) (l : List Int) : Nat → Bool
  | 0 => false
  | i + 1 => invR p l i ^^ symL (l.getD i 0) p (l.take i)

theorem inv_outer {R : Type} {k : Nat} (hk : 5100 ≤ k) {p : Int} (hp : Plc p) {l : List Int} (hs : ∀ x ∈ l, Sm x) (hl : l.length ≤ 4) : ∀ (j i fuel : Nat), i + j = l.length → j < fuel → ∀ K0 : Int → Option R,
    l_impl_invariant_3 k fuel l p (sg (invR p l i)) l (l.length : Int) (i : Int) K0 = K0 (sg (invR p l l.length)) := by
  intro j
  induction j with
  | zero =>
    intro i fuel hi hf K0
    obtain ⟨g, rfl⟩ : ∃ g, fuel = g + 1 := ⟨fuel - 1, by omega⟩
    have : i = l.length := by omega
    subst this
    simp only [l_impl_invariant_3, show ¬ (l.length : Int) < (l.length : Int) by omega, decide_false, cond_false]
  | succ j ih =>
    intro i fuel hi hf K0
    obtain ⟨g, rfl⟩ : ∃ g, fuel = g + 1 := ⟨fuel - 1, by omega⟩
    have hil : i < l.length := by omega
    have hx := hs _ (getD_mem hil)
    have h1 := inv_inner (R := R) hk hp hx (l := l) (l4 := l) (n5 := (l.length : Int)) (n6 := (i : Int)) (l.take i) (fun x hx => hs x (List.mem_of_mem_take hx)) (by rw [List.length_take]; omega) (l.take i).length 0 k (invR p l i) (by omega) (by rw [List.length_take]; omega)
    simp only [List.drop_zero, show ((0 : Nat) : Int) = 0 from rfl] at h1
    simp only [l_impl_invariant_3, show (i : Int) < (l.length : Int) by omega, show (i : Int) ≤ (l.length : Int) by omega, show (0 : Int) ≤ (i : Int) by omega, show (0 : Int) ≤ 0 by omega, Int.toNat_natCast, Int.toNat_zero, List.drop_zero, decide_true, cond_true, Bool.and_self, h1, add_one (show i < 4611686018427387904 by omega)]
    exact ih (i + 1) g (by omega) (by omega) K0

theorem invR_inv {p : Int} : ∀ l : List Int, l.length ≤ 4 → invR p l l.length = inv p l
  | [], _ => rfl
  | [a], _ => rfl
  | [a, b], _ => by simp [invR, inv, symL, symb_comm a b]
  | [a, b, c], _ => by
    simp only [invR, inv, symL, List.length_cons, List.length_nil, List.getD_cons_zero, List.getD_cons_succ, List.take_succ_cons, List.take_zero, symb_comm b a, symb_comm c a, symb_comm c b]
    cases symb a b p <;> cases symb a c p <;> cases symb b c p <;> rfl
  | [a, b, c, d], _ => by
    simp only [invR, inv, symL, List.length_cons, List.length_nil, List.getD_cons_zero, List.getD_cons_succ, List.take_succ_cons, List.take_zero, symb_comm b a, symb_comm c a, symb_comm c b, symb_comm d a, symb_comm d b, symb_comm d c]
    cases symb a b p <;> cases symb a c p <;> cases symb b c p <;> cases symb a d p <;> cases symb b d p <;> cases symb c d p <;> rfl
  | _ :: _ :: _ :: _ :: _ :: _, h => by simp at h

theorem f_impl_invariant_eq {R : Type} {k : Nat} (hk : 5100 ≤ k) {p : Int} (hp : Plc p) {l : List Int} (hs : ∀ x ∈ l, Sm x) (hl : l.length ≤ 4) (K : Int → Option R) : f_impl_invariant k l p K = K (sg (inv p l)) := by
  have := inv_outer (R := R) hk hp hs hl l.length 0 k (by omega) (by omega) (fun y => K y)
  rw [invR_inv l hl] at this
  exact this

theorem Sm.neg {n : Int} (h : Sm n) : Sm (-n) := ⟨by have := h.1; omega, by have := h.2; omega⟩

theorem Tm.sm_prod {l : List Int} (h : Tm l) (hl : l.length ≤ 5) : Sm (prodL l) := by
  obtain ⟨h1, h2⟩ := Tm.prod_le h
  have h30 : 30 ^ l.length ≤ 30 ^ 5 := Nat.pow_le_pow_right (by decide) hl
  exact ⟨h2, by omega⟩

theorem f_impl_vanishes_eq {R : Type} {k : Nat} (hk : 5100 ≤ k) {p : Int} (hp : Plc p) {l : List Int} (h : Tm l) (hl : l.length ≤ 5) (hl5 : l.length = 5 → p = 0) (K : Bool → Option R) : f_impl_vanishes k l p K = K (van l p) := by
  have hP := Tm.sm_prod h hl
  have hN := hP.neg
  have w : IntKind.wrap .i64 (0 - prodL l) = -prodL l := by rw [show 0 - prodL l = -prodL l by omega]; exact wrap_abs (by have := hN.2; omega)
  have hm1 : Sm (-1) := ⟨by omega, by decide⟩
  simp only [f_impl_vanishes, f_impl_product_eq (show 10 ≤ k by omega) h hl, w]
  unfold van
  by_cases h0 : p = 0
  · subst h0
    simp only [decide_true, cond_true, if_true, f_impl_lessTerms_eq (show l.length < k by omega) (show l.length ≤ 1000 by omega)]
    by_cases h1 : 0 < lessL l
    · rw [decide_eq_true (p := (0 : Int) < (lessL l : Nat)) (by omega), decide_eq_true h1]
      simp only [cond_true, Bool.true_and]
      congr 1
      exact decide_eq_decide.2 ⟨fun h => by omega, fun h => by omega⟩
    · rw [decide_eq_false (p := (0 : Int) < (lessL l : Nat)) (by omega), decide_eq_false h1]
      rfl
  · simp only [h0, decide_false, cond_false, if_false]
    by_cases h2 : l.length = 2
    · simp only [h2, show ((2 : Nat) : Int) = 2 from rfl, decide_true, cond_true, f_impl_localSquare_eq hk hN hp]
    by_cases h3 : l.length = 3
    · simp only [h3, show ((3 : Nat) : Int) = 3 from rfl, show ¬ (3 : Int) = 2 by omega, decide_true, decide_false, cond_true, cond_false, f_impl_invariant_eq hk hp h.sm (show l.length ≤ 4 by omega), f_impl_symbol_eq hk hm1 hN hp, sg_eq]
    by_cases h4 : l.length = 4
    · simp only [h4, show ((4 : Nat) : Int) = 4 from rfl, show ¬ (4 : Int) = 2 by omega, show ¬ (4 : Int) = 3 by omega, decide_true, decide_false, cond_true, cond_false, f_impl_localSquare_eq hk hP hp, f_impl_invariant_eq hk hp h.sm (show l.length ≤ 4 by omega), f_impl_symbol_eq hk hm1 hm1 hp, sg_eq]
      cases lsq (prodL l) p <;> rfl
    · simp only [show ¬ (l.length : Int) = 2 by omega, show ¬ (l.length : Int) = 3 by omega, show ¬ (l.length : Int) = 4 by omega, decide_false, cond_false]

theorem f_slices_Clone_eq {R : Type} (k : Nat) {l : List Int} (h : 1 ≤ l.length) (hl : l.length ≤ 1000000) (K : List Int → Option R) : f_slices_Clone k l K = K l := by
  have h1 : isNe l = true := by cases l with | nil => simp at h | cons a r => rfl
  have hlim : LIM = 4294967296 := rfl
  have h2 : Nat.ble (0 + l.length) LIM = true := Nat.ble_eq_true_of_le (by omega)
  simp only [f_slices_Clone, h1, h2, cond_true, List.nil_append]

/-- A form represents a value at a place. -/
def rpr (l : List Int) (t p : Int) : Bool := if l.length = 4 ∧ p ≠ 0 then true else van (l ++ [-t]) p

theorem ble_lim {n : Nat} (h : n ≤ 4294967296) : Nat.ble n LIM = true := Nat.ble_eq_true_of_le h

theorem f_impl_represents_eq {R : Type} {k : Nat} (hk : 5100 ≤ k) {p t : Int} (hp : Plc p) {l : List Int} (h : Valid l) (ht : t ≠ 0 ∧ -30 ≤ t ∧ t ≤ 30) (K : Bool → Option R) : f_impl_represents k l t p K = K (rpr l t p) := by
  have w : IntKind.wrap .i64 (0 - t) = -t := by rw [wrap_id (by omega) (by omega)]; omega
  have hT : Tm (l ++ [-t]) := fun x hx => by
    rcases List.mem_append.1 hx with hx | hx
    · exact h.t x hx
    · rw [List.mem_singleton] at hx; subst hx; omega
  have hlo := h.lo
  have hhi := h.hi
  have hlen : (l ++ [-t]).length = l.length + 1 := by simp
  unfold rpr
  simp only [f_impl_represents, f_slices_Clone_eq k h.lo (show l.length ≤ 1000000 by omega), ble_lim (show l.length + 1 ≤ 4294967296 by omega), cond_true, w]
  by_cases h4 : l.length = 4
  · by_cases h0 : p = 0
    · rw [if_neg (by simp [h0])]
      simp only [h4, h0, show ((4 : Nat) : Int) = 4 from rfl, decide_true, cond_true, Bool.not_true, cond_false]
      subst h0
      exact f_impl_vanishes_eq hk hp hT (by omega) (fun _ => rfl) K
    · rw [if_pos ⟨h4, h0⟩]
      simp only [h4, h0, show ((4 : Nat) : Int) = 4 from rfl, decide_true, decide_false, cond_true, Bool.not_false]
  · rw [if_neg (by simp [h4])]
    simp only [show ¬ (l.length : Int) = 4 by omega, decide_false, cond_false]
    exact f_impl_vanishes_eq hk hp hT (by omega) (fun h => by omega) K

theorem f_impl_valueOk_eq {R : Type} (k : Nat) (t : Int) (K : Bool → Option R) : f_impl_valueOk k t K = K (okT t) := by
  simp only [f_impl_valueOk, okT]
  by_cases h0 : t = 0
  · simp only [h0, decide_true, Bool.not_true, cond_false, Bool.false_and]
  · by_cases h1 : -30 ≤ t
    · simp only [h0, h1, decide_true, decide_false, Bool.not_false, cond_true, Bool.true_and]
    · simp only [h0, h1, decide_false, Bool.not_false, cond_true, cond_false, Bool.false_and, Bool.and_false]

theorem okT_iff {t : Int} : okT t = true ↔ t ≠ 0 ∧ -30 ≤ t ∧ t ≤ 30 := by
  unfold okT
  simp only [Bool.and_eq_true, Bool.not_eq_true', decide_eq_true_eq, decide_eq_false_iff_not, ne_eq]

/- Primes -/
def prs : Nat → Int → Int → List Int → Int × List Int
  | 0, n, p, acc => (n, acc)
  | f + 1, n, p, acc => if p * p ≤ n then (if n.tmod p = 0 then prs f (unt n p) (p + 1) (acc ++ [p]) else prs f n (p + 1) acc) else (n, acc)

def primesL (n : Int) : List Int :=
  let r := prs 5001 (n.natAbs : Nat) 2 []
  if 1 < r.1 then r.2 ++ [r.1] else r.2

theorem prs_len : ∀ (f : Nat) (n p : Int) (acc : List Int), (prs f n p acc).2.length ≤ acc.length + f
  | 0, n, p, acc => by simp [prs]
  | f + 1, n, p, acc => by
    unfold prs
    split
    · split
      · have := prs_len f (unt n p) (p + 1) (acc ++ [p]); simp at this; omega
      · have := prs_len f n (p + 1) acc; omega
    · simp

theorem primesL_len (n : Int) : (primesL n).length ≤ 5002 := by
  unfold primesL
  have := prs_len 5001 (n.natAbs : Nat) 2 []
  simp only at this ⊢
  simp only [List.length_nil] at this
  split
  · simp only [List.length_append, List.length_cons, List.length_nil]; omega
  · omega

theorem unt_pos {n p : Int} (hp : 2 ≤ p) (h0 : 0 < n) (hn : n.natAbs < 2 ^ 64) : 0 < unt n p ∧ unt n p ≤ n := by
  obtain ⟨h1, h2, h3, h4⟩ := val_spec hp (show n ≠ 0 by omega) hn
  have hpos : (0 : Int) < p ^ val n p := Int.pow_pos (by omega)
  constructor
  · rcases Int.lt_or_le 0 (unt n p) with h | h
    · exact h
    · have := Int.mul_nonneg (show (0 : Int) ≤ p ^ val n p by omega) (show 0 ≤ -unt n p by omega)
      rw [Int.mul_neg] at this
      omega
  · omega

theorem primes_loop {R : Type} {k : Nat} (hk : 100 ≤ k) : ∀ (f fuel : Nat) (n p : Int) (acc : List Int), 0 < n → n ≤ 25000000 → 2 ≤ p → p + f = 5003 → f < fuel → acc.length + f ≤ 100000 → ∀ K0 : Int → List Int → Option R,
    l_impl_primesOf_4 k fuel n p acc K0 = K0 (prs f n p acc).1 (prs f n p acc).2 := by
  intro f
  induction f with
  | zero =>
    intro fuel n p acc h0 h1 h2 h3 h4 h5 K0
    obtain ⟨g, rfl⟩ : ∃ g, fuel = g + 1 := ⟨fuel - 1, by omega⟩
    have : p = 5003 := by omega
    subst this
    have w : IntKind.wrap .i64 (5003 * 5003) = 25030009 := by decide
    simp only [l_impl_primesOf_4, w, show ¬ (25030009 : Int) ≤ n by omega, decide_false, cond_false, prs]
  | succ f ih =>
    intro fuel n p acc h0 h1 h2 h3 h4 h5 K0
    obtain ⟨g, rfl⟩ : ∃ g, fuel = g + 1 := ⟨fuel - 1, by omega⟩
    have hsq : p * p ≤ 25030009 := by have := sq_le (x := p) (y := 5003) (by omega) (by omega); omega
    have w : IntKind.wrap .i64 (p * p) = p * p := wrap_id (by have := sq_nonneg p; omega) (by omega)
    have w2 : IntKind.wrap .i64 (p + 1) = p + 1 := wrap_id (by omega) (by omega)
    unfold prs
    by_cases hpp : p * p ≤ n
    · simp only [l_impl_primesOf_4, w, w2, hpp, show ¬ p = 0 by omega, decide_true, decide_false, Bool.not_false, cond_true, if_true]
      by_cases hd : n.tmod p = 0
      · obtain ⟨u1, u2⟩ := unt_pos (n := n) h2 h0 (by omega)
        simp only [hd, decide_true, cond_true, if_true, ble_lim (show acc.length + 1 ≤ 4294967296 by omega), f_impl_split_eq hk h2 (show n ≠ 0 by omega) (show n.natAbs < 9223372036854775808 by omega)]
        exact ih g (unt n p) (p + 1) (acc ++ [p]) u1 (by omega) (by omega) (by omega) (by omega) (by simp; omega) K0
      · simp only [hd, decide_false, cond_false, if_false]
        exact ih g n (p + 1) acc h0 h1 (by omega) (by omega) (by omega) (by omega) K0
    · simp only [l_impl_primesOf_4, w, hpp, decide_false, cond_false, if_false]

theorem f_impl_primesOf_eq {R : Type} {k : Nat} (hk : 5100 ≤ k) {n : Int} (h0 : n ≠ 0) (hn : n.natAbs ≤ 25000000) (K : List Int → Option R) : f_impl_primesOf k n K = K (primesL n) := by
  have h := primes_loop (R := R) (k := k) (by omega) 5001 k (n.natAbs : Nat) 2 [] (by omega) (by omega) (by omega) (by omega) (by omega) (by simp)
  have hlen := prs_len 5001 (n.natAbs : Nat) 2 []
  simp only [f_impl_primesOf, f_impl_size_eq k (show n.natAbs < 9223372036854775808 by omega), h, primesL]
  simp only [List.length_nil] at hlen
  by_cases h1 : 1 < (prs 5001 (n.natAbs : Nat) 2 []).1
  · simp only [h1, decide_true, cond_true, if_true, ble_lim (show (prs 5001 (n.natAbs : Nat) 2 []).2.length + 1 ≤ 4294967296 by omega)]
  · simp only [h1, decide_false, cond_false, if_false]

/-- What the primes of a number are. -/
theorem prs_spec : ∀ (f : Nat) (n p : Int) (acc : List Int), 0 < n → n ≤ 25000000 → 2 ≤ p → p + f = 5003 → (∀ d, 2 ≤ d → d < p → ¬ d ∣ n) →
    ∃ new, (prs f n p acc).2 = acc ++ new ∧ (∀ q ∈ new, Pr q ∧ p ≤ q ∧ q ∣ n) ∧ new.Pairwise (· < ·) ∧ ((prs f n p acc).1 = 1 ∨ (Pr (prs f n p acc).1 ∧ (prs f n p acc).1 ∣ n ∧ p ≤ (prs f n p acc).1 ∧ ∀ q ∈ new, q < (prs f n p acc).1)) ∧ ∀ q, Pr q → q ∣ n → q ∈ new ∨ q = (prs f n p acc).1 := by
  intro f
  induction f with
  | zero =>
    intro n p acc h0 h1 h2 h3 h4
    refine ⟨[], by simp [prs], by simp, List.Pairwise.nil, ?_, ?_⟩
    · simp only [prs]
      rcases (show n = 1 ∨ 2 ≤ n by omega) with h | h
      · exact .inl h
      · refine .inr ⟨⟨h, fun d hd hdd hdn => ?_⟩, Int.dvd_refl _, ?_, by simp⟩
        · have : d < p := lt_of_sq (by omega) (by
            have : 5003 * 5003 ≤ p * p := sq_le (by omega) (by omega)
            omega)
          exact h4 d hd this hdn
        · rcases Int.lt_or_le n p with hlt | hle
          · exact absurd (Int.dvd_refl n) (h4 n h hlt)
          · exact hle
    · intro q hq hqn
      right
      simp only [prs]
      obtain ⟨c, hc⟩ := hqn
      have hcpos : 0 < c := by
        rcases Int.lt_or_le 0 c with h | h
        · exact h
        · have := Int.mul_nonneg (show (0 : Int) ≤ q by have := hq.1; omega) (show 0 ≤ -c by omega)
          rw [Int.mul_neg] at this; omega
      rcases (show c = 1 ∨ 2 ≤ c by omega) with h | h
      · subst h; omega
      · exfalso
        have hq1 : p ≤ q := by
          rcases Int.lt_or_le q p with hlt | hle
          · exact absurd ⟨c, hc⟩ (h4 q hq.1 hlt)
          · exact hle
        have hc1 : p ≤ c := by
          rcases Int.lt_or_le c p with hlt | hle
          · exact absurd ⟨q, by rw [hc, Int.mul_comm]⟩ (h4 c h hlt)
          · exact hle
        have : p * p ≤ q * c := Int.mul_le_mul hq1 hc1 (by omega) (by omega)
        have : 5003 * 5003 ≤ p * p := sq_le (by omega) (by omega)
        omega
  | succ f ih =>
    intro n p acc h0 h1 h2 h3 h4
    unfold prs
    by_cases hpp : p * p ≤ n
    · rw [if_pos hpp]
      by_cases hd : n.tmod p = 0
      · rw [if_pos hd]
        have hdn : p ∣ n := Int.dvd_of_tmod_eq_zero hd
        obtain ⟨u1, u2⟩ := unt_pos (n := n) h2 h0 (by omega)
        obtain ⟨v1, v2, _⟩ := val_spec (n := n) h2 (by omega) (by omega)
        have hun : unt n p ∣ n := ⟨p ^ val n p, by rw [Int.mul_comm]; exact v1⟩
        have hpr : Pr p := ⟨h2, fun d hd1 hdd hdp => by
          have hlt : d < p := by
            have : d * 2 ≤ d * d := Int.mul_le_mul_of_nonneg_left hd1 (by omega)
            omega
          exact h4 d hd1 hlt (Int.dvd_trans hdp hdn)⟩
        obtain ⟨new, e1, e2, e3, e4, e5⟩ := ih (unt n p) (p + 1) (acc ++ [p]) u1 (by omega) (by omega) (by omega) (fun d hd1 hd2 hdu => by
          rcases (show d = p ∨ d < p by omega) with rfl | hlt
          · exact v2 hdu
          · exact h4 d hd1 hlt (Int.dvd_trans hdu hun))
        refine ⟨p :: new, by rw [e1]; simp, fun q hq => ?_, ?_, ?_, fun q hq hqn => ?_⟩
        · rcases List.mem_cons.1 hq with rfl | hq
          · exact ⟨hpr, Int.le_refl _, hdn⟩
          · obtain ⟨a1, a2, a3⟩ := e2 q hq
            exact ⟨a1, by omega, Int.dvd_trans a3 hun⟩
        · exact List.pairwise_cons.2 ⟨fun q hq => by have := (e2 q hq).2.1; omega, e3⟩
        · rcases e4 with h | ⟨a1, a2, a3, a4⟩
          · exact .inl h
          · refine .inr ⟨a1, Int.dvd_trans a2 hun, by omega, fun q hq => ?_⟩
            rcases List.mem_cons.1 hq with rfl | hq
            · omega
            · exact a4 q hq
        · by_cases hqp : q = p
          · subst hqp; exact .inl (by simp)
          · have hqu : q ∣ unt n p := by
              rw [v1] at hqn
              have hnp : ∀ m : Nat, ¬ q ∣ p ^ m := fun m => by
                induction m with
                | zero =>
                  intro h
                  have := small_dvd (p := q) (x := 1) (by simpa using h) (by have := hq.1; omega) (by have := hq.1; omega)
                  omega
                | succ m ihm =>
                  intro h
                  rw [Int.pow_succ] at h
                  rcases hq.dvd_mul h with h | h
                  · exact ihm h
                  · rcases hpr.div (by have := hq.1; omega) h with h | h
                    · have := hq.1; omega
                    · exact hqp h
              rcases hq.dvd_mul hqn with h | h
              · exact absurd h (hnp _)
              · exact h
            rcases e5 q hq hqu with h | h
            · exact .inl (List.mem_cons_of_mem _ h)
            · exact .inr h
      · rw [if_neg hd]
        have hdn : ¬ p ∣ n := fun h => hd (Int.tmod_eq_zero_of_dvd h)
        obtain ⟨new, e1, e2, e3, e4, e5⟩ := ih n (p + 1) acc h0 h1 (by omega) (by omega) (fun d hd1 hd2 => by
          rcases (show d = p ∨ d < p by omega) with rfl | hlt
          · exact hdn
          · exact h4 d hd1 hlt)
        refine ⟨new, e1, fun q hq => ?_, e3, ?_, e5⟩
        · obtain ⟨a1, a2, a3⟩ := e2 q hq
          exact ⟨a1, by omega, a3⟩
        · rcases e4 with h | ⟨a1, a2, a3, a4⟩
          · exact .inl h
          · exact .inr ⟨a1, a2, by omega, a4⟩
    · rw [if_neg hpp]
      refine ⟨[], by simp, by simp, List.Pairwise.nil, ?_, fun q hq hqn => ?_⟩
      · rcases (show n = 1 ∨ 2 ≤ n by omega) with h | h
        · exact .inl h
        · refine .inr ⟨⟨h, fun d hd hdd hdn => ?_⟩, Int.dvd_refl _, ?_, by simp⟩
          · exact h4 d hd (lt_of_sq (by omega) (by omega)) hdn
          · rcases Int.lt_or_le n p with hlt | hle
            · exact absurd (Int.dvd_refl n) (h4 n h hlt)
            · exact hle
      · right
        obtain ⟨c, hc⟩ := hqn
        have hcpos : 0 < c := by
          rcases Int.lt_or_le 0 c with h | h
          · exact h
          · have := Int.mul_nonneg (show (0 : Int) ≤ q by have := hq.1; omega) (show 0 ≤ -c by omega)
            rw [Int.mul_neg] at this; omega
        rcases (show c = 1 ∨ 2 ≤ c by omega) with h | h
        · subst h; simp at hc; simp [hc]
        · exfalso
          have hq1 : p ≤ q := by
            rcases Int.lt_or_le q p with hlt | hle
            · exact absurd ⟨c, hc⟩ (h4 q hq.1 hlt)
            · exact hle
          have hc1 : p ≤ c := by
            rcases Int.lt_or_le c p with hlt | hle
            · exact absurd ⟨q, by rw [hc, Int.mul_comm]⟩ (h4 c h hlt)
            · exact hle
          have : p * p ≤ q * c := Int.mul_le_mul hq1 hc1 (by omega) (by omega)
          omega

theorem primesL_spec {n : Int} (h0 : n ≠ 0) (hn : n.natAbs ≤ 25000000) : (∀ q, q ∈ primesL n ↔ Pr q ∧ q ∣ n) ∧ (primesL n).Pairwise (· < ·) := by
  obtain ⟨new, e1, e2, e3, e4, e5⟩ := prs_spec 5001 (n.natAbs : Nat) 2 [] (by omega) (by omega) (by omega) (by omega) (fun d h1 h2 => by omega)
  have hab : ∀ q : Int, q ∣ ((n.natAbs : Nat) : Int) ↔ q ∣ n := fun q => Int.dvd_natAbs
  unfold primesL
  simp only [e1, List.nil_append]
  generalize (prs 5001 (n.natAbs : Nat) 2 []).1 = r at *
  by_cases h1 : 1 < r
  · rw [if_pos h1]
    rcases e4 with h | ⟨a1, a2, a3, a4⟩
    · omega
    · refine ⟨fun q => ⟨fun hq => ?_, fun ⟨hq, hqn⟩ => ?_⟩, ?_⟩
      · rcases List.mem_append.1 hq with hq | hq
        · have := e2 q hq; exact ⟨this.1, (hab q).1 this.2.2⟩
        · rw [List.mem_singleton] at hq; subst hq; exact ⟨a1, (hab _).1 a2⟩
      · rcases e5 q hq ((hab q).2 hqn) with h | h
        · exact List.mem_append.2 (.inl h)
        · subst h; simp
      · rw [List.pairwise_append]
        exact ⟨e3, by simp, fun a ha b hb => by rw [List.mem_singleton] at hb; subst hb; exact a4 a ha⟩
  · rw [if_neg h1]
    refine ⟨fun q => ⟨fun hq => ?_, fun ⟨hq, hqn⟩ => ?_⟩, e3⟩
    · have := e2 q hq; exact ⟨this.1, (hab q).1 this.2.2⟩
    · rcases e5 q hq ((hab q).2 hqn) with h | h
      · exact h
      · have := hq.1; omega

/- Places -/
theorem index_loop {R : Type} (k : Nat) {l : List Int} {v : Int} (hl : l.length < 4611686018427387904) : ∀ (j i fuel : Nat), i + j = l.length → j < fuel → ∀ (K0 : Int → Option R) (K1 : Option R),
    (∃ r : Int, 0 ≤ r ∧ v ∈ l.drop i ∧ l_slices_Index_2 k fuel l v (l.length : Int) (i : Int) K0 K1 = K0 r) ∨ (v ∉ l.drop i ∧ l_slices_Index_2 k fuel l v (l.length : Int) (i : Int) K0 K1 = K1)
  | 0, i, fuel, hi, hf, K0, K1 => by
    obtain ⟨g, rfl⟩ : ∃ g, fuel = g + 1 := ⟨fuel - 1, by omega⟩
    have : l.drop i = [] := List.drop_eq_nil_of_le (by omega)
    right
    refine ⟨by rw [this]; simp, ?_⟩
    simp only [l_slices_Index_2, show ¬ (i : Int) < (l.length : Int) by omega, decide_false, cond_false]
  | j + 1, i, fuel, hi, hf, K0, K1 => by
    obtain ⟨g, rfl⟩ : ∃ g, fuel = g + 1 := ⟨fuel - 1, by omega⟩
    have hil : i < l.length := by omega
    rw [getD_drop hil]
    generalize ht : l.getD i 0 = t at *
    by_cases h : v = t
    · left
      refine ⟨i, by omega, by simp [h], ?_⟩
      simp only [l_slices_Index_2, show (i : Int) < (l.length : Int) by omega, show (0 : Int) ≤ (i : Int) by omega, Int.toNat_natCast, ht, h, decide_true, cond_true, Bool.and_self]
    · have e : l_slices_Index_2 k (g + 1) l v (l.length : Int) (i : Int) K0 K1 = l_slices_Index_2 k g l v (l.length : Int) ((i + 1 : Nat) : Int) K0 K1 := by
        simp only [l_slices_Index_2, show (i : Int) < (l.length : Int) by omega, show (0 : Int) ≤ (i : Int) by omega, Int.toNat_natCast, ht, h, decide_true, decide_false, cond_true, cond_false, Bool.and_self, add_one (show i < 4611686018427387904 by omega)]
      rw [e]
      rcases index_loop (R := R) k (v := v) hl j (i + 1) g (by omega) (by omega) K0 K1 with ⟨r, h1, h2, h3⟩ | ⟨h2, h3⟩
      · exact .inl ⟨r, h1, List.mem_cons_of_mem _ h2, h3⟩
      · exact .inr ⟨by simp [h, h2], h3⟩

theorem f_slices_Contains_eq {R : Type} {k : Nat} {l : List Int} {v : Int} (hk : l.length < k) (hl : l.length < 4611686018427387904) (K : Bool → Option R) : f_slices_Contains k l v K = K (decide (v ∈ l)) := by
  rcases index_loop (R := R) k (v := v) hl l.length 0 k (by omega) hk (fun y5 => K (decide (0 ≤ y5))) (K (decide (0 ≤ (-1 : Int)))) with ⟨r, h1, h2, h3⟩ | ⟨h2, h3⟩
  · rw [List.drop_zero] at h2
    refine (show _ = _ from h3).trans ?_
    rw [decide_eq_true h1, decide_eq_true h2]
  · rw [List.drop_zero] at h2
    refine (show _ = _ from h3).trans ?_
    rw [decide_eq_false h2]
    rfl

def addP (acc : List Int) (p : Int) : List Int := if p ∈ acc then acc else acc ++ [p]
def addPs (acc ps : List Int) : List Int := ps.foldl addP acc
def placesU (acc l : List Int) : List Int := l.foldl (fun acc n => addPs acc (primesL n)) acc
/-- 0, 2 and the primes of some numbers, in order. -/
def placesL (l : List Int) : List Int := sortL (placesU [0, 2] l)

theorem addP_len (acc : List Int) (p : Int) : (addP acc p).length ≤ acc.length + 1 := by unfold addP; split <;> simp
theorem addPs_len : ∀ (ps acc : List Int), (addPs acc ps).length ≤ acc.length + ps.length
  | [], acc => by simp [addPs]
  | p :: ps, acc => by
    have h1 := addP_len acc p
    have h2 := addPs_len ps (addP acc p)
    show (addPs (addP acc p) ps).length ≤ _
    simp only [List.length_cons]; omega

theorem places_inner {R : Type} {k : Nat} (hk : 60000 ≤ k) {v6 : List Int} {v7 v8 : Int} : ∀ (ps : List Int), ps.length ≤ 5002 → ∀ (j i fuel : Nat) (acc : List Int), i + j = ps.length → j < fuel → acc.length + j ≤ 50000 → ∀ K0 : List Int → Int → Int → List Int → Option R,
    l_impl_placesOf_6 k fuel v6 v7 v8 ps (ps.length : Int) (i : Int) acc K0 = K0 v6 v7 v8 (addPs acc (ps.drop i)) := by
  intro ps hps j
  induction j with
  | zero =>
    intro i fuel acc hi hf hb K0
    obtain ⟨g, rfl⟩ : ∃ g, fuel = g + 1 := ⟨fuel - 1, by omega⟩
    have : ps.drop i = [] := List.drop_eq_nil_of_le (by omega)
    simp only [l_impl_placesOf_6, show ¬ (i : Int) < (ps.length : Int) by omega, decide_false, cond_false, this, addPs, List.foldl_nil]
  | succ j ih =>
    intro i fuel acc hi hf hb K0
    obtain ⟨g, rfl⟩ : ∃ g, fuel = g + 1 := ⟨fuel - 1, by omega⟩
    have hil : i < ps.length := by omega
    rw [getD_drop hil]
    generalize ht : ps.getD i 0 = t at *
    simp only [l_impl_placesOf_6, show (i : Int) < (ps.length : Int) by omega, show (0 : Int) ≤ (i : Int) by omega, Int.toNat_natCast, ht, decide_true, cond_true, Bool.and_self, add_one (show i < 4611686018427387904 by omega), f_slices_Contains_eq (show acc.length < k by omega) (show acc.length < 4611686018427387904 by omega), ble_lim (show acc.length + 1 ≤ 4294967296 by omega)]
    show _ = K0 v6 v7 v8 (addPs (addP acc t) (ps.drop (i + 1)))
    unfold addP
    by_cases h : t ∈ acc
    · simp only [h, decide_true, Bool.not_true, cond_false, if_true]
      exact ih (i + 1) g acc (by omega) (by omega) (by omega) K0
    · simp only [h, decide_false, Bool.not_false, cond_true, if_false]
      exact ih (i + 1) g (acc ++ [t]) (by omega) (by omega) (by simp; omega) K0

theorem places_outer {R : Type} {k : Nat} (hk : 60000 ≤ k) : ∀ (l : List Int), (∀ x ∈ l, x ≠ 0 ∧ x.natAbs ≤ 25000000) → l.length ≤ 9 → ∀ (j i fuel : Nat) (acc : List Int), i + j = l.length → j < fuel → acc.length + 5002 * j ≤ 50000 → ∀ K0 : List Int → Option R,
    l_impl_placesOf_3 k fuel l (l.length : Int) (i : Int) acc K0 = K0 (placesU acc (l.drop i)) := by
  intro l hl hl9 j
  induction j with
  | zero =>
    intro i fuel acc hi hf hb K0
    obtain ⟨g, rfl⟩ : ∃ g, fuel = g + 1 := ⟨fuel - 1, by omega⟩
    have : l.drop i = [] := List.drop_eq_nil_of_le (by omega)
    simp only [l_impl_placesOf_3, show ¬ (i : Int) < (l.length : Int) by omega, decide_false, cond_false, this, placesU, List.foldl_nil]
  | succ j ih =>
    intro i fuel acc hi hf hb K0
    obtain ⟨g, rfl⟩ : ∃ g, fuel = g + 1 := ⟨fuel - 1, by omega⟩
    have hil : i < l.length := by omega
    obtain ⟨hx1, hx2⟩ := hl _ (getD_mem hil)
    rw [getD_drop hil]
    generalize ht : l.getD i 0 = t at *
    have hpl := primesL_len t
    have h1 := places_inner (R := R) hk (v6 := l) (v7 := (l.length : Int)) (v8 := (i : Int)) (primesL t) hpl (primesL t).length 0 k acc (by omega) (by omega) (by omega)
    simp only [List.drop_zero, show ((0 : Nat) : Int) = 0 from rfl] at h1
    simp only [l_impl_placesOf_3, show (i : Int) < (l.length : Int) by omega, show (0 : Int) ≤ (i : Int) by omega, Int.toNat_natCast, ht, decide_true, cond_true, Bool.and_self, add_one (show i < 4611686018427387904 by omega), f_impl_primesOf_eq (show 5100 ≤ k by omega) hx1 hx2, h1]
    have := addPs_len (primesL t) acc
    exact ih (i + 1) g (addPs acc (primesL t)) (by omega) (by omega) (by omega) K0

theorem placesU_len : ∀ (l acc : List Int), (placesU acc l).length ≤ acc.length + 5002 * l.length
  | [], acc => by simp [placesU]
  | a :: r, acc => by
    have h1 := addPs_len (primesL a) acc
    have h2 := placesU_len r (addPs acc (primesL a))
    have h3 := primesL_len a
    show (placesU (addPs acc (primesL a)) r).length ≤ _
    simp only [List.length_cons]; omega

theorem addP_sub {acc : List Int} {p x : Int} : x ∈ addP acc p ↔ x ∈ acc ∨ x = p := by
  unfold addP
  split
  · rename_i h
    constructor
    · exact .inl
    · rintro (h1 | rfl)
      · exact h1
      · exact h
  · simp

theorem addPs_mem {x : Int} : ∀ (ps acc : List Int), x ∈ addPs acc ps ↔ x ∈ acc ∨ x ∈ ps
  | [], acc => by simp [addPs]
  | p :: ps, acc => by
    show x ∈ addPs (addP acc p) ps ↔ _
    rw [addPs_mem ps, addP_sub, List.mem_cons, or_assoc]

theorem placesU_mem {x : Int} : ∀ (l acc : List Int), x ∈ placesU acc l ↔ x ∈ acc ∨ ∃ n ∈ l, x ∈ primesL n
  | [], acc => by simp [placesU]
  | a :: r, acc => by
    show x ∈ placesU (addPs acc (primesL a)) r ↔ _
    rw [placesU_mem r, addPs_mem, or_assoc]
    simp

theorem sortL_mem {x : Int} {l : List Int} : x ∈ sortL l ↔ x ∈ l := (sortL_perm l).mem_iff

theorem isNe_of_len {l : List Int} (h : 1 ≤ l.length) : isNe l = true := by cases l with | nil => simp at h | cons a r => rfl

theorem placesU_ne (l : List Int) : 2 ≤ (placesU [0, 2] l).length := by
  have h0 : (0 : Int) ∈ placesU [0, 2] l := (placesU_mem l _).2 (.inl (by simp))
  have h2 : (2 : Int) ∈ placesU [0, 2] l := (placesU_mem l _).2 (.inl (by simp))
  match h : placesU [0, 2] l with
  | [] => rw [h] at h0; cases h0
  | [a] => rw [h, List.mem_singleton] at h0 h2; omega
  | _ :: _ :: _ => simp

theorem f_impl_placesOf_eq {R : Type} {k : Nat} (hk : 60000 ≤ k) {l : List Int} (hl : ∀ x ∈ l, x ≠ 0 ∧ x.natAbs ≤ 25000000) (hl9 : l.length ≤ 9) (K : List Int → Option R) : f_impl_placesOf k l K = K (placesL l) := by
  have h := places_outer (R := R) hk l hl hl9 l.length 0 k [0, 2] (by omega) (by omega) (by simp; omega) (fun y18 => f_slices_Sort k y18 (fun r19 => K r19))
  have hlen := placesU_len l [0, 2]
  have hne := placesU_ne l
  simp only [List.drop_zero] at h
  refine (show _ = _ from h).trans ?_
  simp only [f_slices_Sort, isNe_of_len (show 1 ≤ (placesU [0, 2] l).length by omega), ble_lim (show (placesU [0, 2] l).length ≤ 4294967296 by simp at hlen; omega), Bool.and_self, cond_true]
  rfl

theorem placesL_mem {x : Int} {l : List Int} (hl : ∀ x ∈ l, x ≠ 0 ∧ x.natAbs ≤ 25000000) : x ∈ placesL l ↔ x = 0 ∨ x = 2 ∨ ∃ n ∈ l, Pr x ∧ x ∣ n := by
  unfold placesL
  rw [sortL_mem, placesU_mem]
  constructor
  · rintro (h | ⟨n, hn, h⟩)
    · simp at h; rcases h with h | h
      · exact .inl h
      · exact .inr (.inl h)
    · exact .inr (.inr ⟨n, hn, ((primesL_spec (hl n hn).1 (hl n hn).2).1 x).1 h⟩)
  · rintro (h | h | ⟨n, hn, h⟩)
    · exact .inl (by simp [h])
    · exact .inl (by simp [h])
    · exact .inr ⟨n, hn, ((primesL_spec (hl n hn).1 (hl n hn).2).1 x).2 h⟩

theorem le_of_dvd' {p n : Int} (h : p ∣ n) (h0 : n ≠ 0) (hp : 0 < p) : p ≤ (n.natAbs : Nat) := by
  have : p.natAbs ≤ n.natAbs := Nat.le_of_dvd (by omega) (Int.natAbs_dvd_natAbs.2 h)
  omega

theorem placesL_plc {x : Int} {l : List Int} (hl : ∀ x ∈ l, x ≠ 0 ∧ x.natAbs ≤ 5000) (h : x ∈ placesL l) : Plc x := by
  rcases (placesL_mem fun x hx => ⟨(hl x hx).1, by have := (hl x hx).2; omega⟩).1 h with rfl | rfl | ⟨n, hn, hp, hd⟩
  · exact .inl rfl
  · exact .inr ⟨pr2, by omega⟩
  · have := le_of_dvd' hd (hl n hn).1 (by have := hp.1; omega)
    have := (hl n hn).2
    exact .inr ⟨hp, by omega⟩

theorem placesL_len (l : List Int) : (placesL l).length ≤ 2 + 5002 * l.length := by
  unfold placesL
  rw [(sortL_perm _).length_eq]
  have := placesU_len l [0, 2]
  simpa using this

/-- The places at which a form does not represent a value. -/
def badV (l : List Int) (t : Int) : List Int := (placesL (l ++ [t])).filter fun p => !rpr l t p

theorem bad_loop {R : Type} {k : Nat} (hk : 60000 ≤ k) {l : List Int} {t : Int} (h : Valid l) (ht : t ≠ 0 ∧ -30 ≤ t ∧ t ≤ 30) : ∀ (ps : List Int), (∀ p ∈ ps, Plc p) → ps.length ≤ 50000 → ∀ (j i fuel : Nat) (acc : List Int), i + j = ps.length → j < fuel → acc.length + j ≤ 60000 → ∀ K0 : List Int → Option R,
    l_impl_ValueBad_5 k fuel l t ps (ps.length : Int) (i : Int) acc K0 = K0 (acc ++ (ps.drop i).filter fun p => !rpr l t p) := by
  intro ps hps hpl j
  induction j with
  | zero =>
    intro i fuel acc hi hf hb K0
    obtain ⟨g, rfl⟩ : ∃ g, fuel = g + 1 := ⟨fuel - 1, by omega⟩
    have : ps.drop i = [] := List.drop_eq_nil_of_le (by omega)
    simp only [l_impl_ValueBad_5, show ¬ (i : Int) < (ps.length : Int) by omega, decide_false, cond_false, this, List.filter_nil, List.append_nil]
  | succ j ih =>
    intro i fuel acc hi hf hb K0
    obtain ⟨g, rfl⟩ : ∃ g, fuel = g + 1 := ⟨fuel - 1, by omega⟩
    have hil : i < ps.length := by omega
    have hx := hps _ (getD_mem hil)
    rw [getD_drop hil]
    generalize hq : ps.getD i 0 = q at *
    simp only [l_impl_ValueBad_5, show (i : Int) < (ps.length : Int) by omega, show (0 : Int) ≤ (i : Int) by omega, Int.toNat_natCast, hq, decide_true, cond_true, Bool.and_self, add_one (show i < 4611686018427387904 by omega), f_impl_represents_eq (show 5100 ≤ k by omega) hx h ht, ble_lim (show acc.length + 1 ≤ 4294967296 by omega)]
    rw [List.filter_cons]
    cases hr : rpr l t q with
    | true =>
      simp only [Bool.not_true, cond_false, Bool.false_eq_true, if_false]
      exact ih (i + 1) g acc (by omega) (by omega) (by omega) K0
    | false =>
      simp only [Bool.not_false, cond_true, if_true]
      rw [ih (i + 1) g (acc ++ [q]) (by omega) (by omega) (by simp; omega) K0, List.append_assoc]
      rfl

theorem Valid.sz {l : List Int} (h : Valid l) : Sz l := fun x hx => by have := h.t x hx; omega

theorem Valid.with {l : List Int} {t : Int} (h : Valid l) (ht : t ≠ 0 ∧ -30 ≤ t ∧ t ≤ 30) : ∀ x ∈ l ++ [t], x ≠ 0 ∧ x.natAbs ≤ 30 := fun x hx => by
  rcases List.mem_append.1 hx with hx | hx
  · have := h.t x hx; exact ⟨this.1, by omega⟩
  · rw [List.mem_singleton] at hx; subst hx; exact ⟨ht.1, by omega⟩

theorem f_impl_ValueBad_eq {R : Type} {k : Nat} (hk : 60000 ≤ k) {l : List Int} {t : Int} (h : Valid l) (ht : t ≠ 0 ∧ -30 ≤ t ∧ t ≤ 30) (K : List Int → Option R) : f_impl_ValueBad k l t K = K (badV l t) := by
  have hw := h.with ht
  have hhi := h.hi
  have hlen : (l ++ [t]).length = l.length + 1 := by simp
  have hpl := placesL_len (l ++ [t])
  have hl := bad_loop (R := R) hk h ht (placesL (l ++ [t])) (fun p hp => placesL_plc (fun x hx => ⟨(hw x hx).1, by have := (hw x hx).2; omega⟩) hp) (by omega) (placesL (l ++ [t])).length 0 k [] (by omega) (by omega) (by simp; omega) (fun y12 => K y12)
  simp only [List.drop_zero, List.nil_append, show ((0 : Nat) : Int) = 0 from rfl] at hl
  have hv : validL l = true := valid_iff.2 h
  have ho : okT t = true := okT_iff.2 ht
  simp only [f_impl_ValueBad, f_impl_FormValid_eq h.sz (show l.length < k by omega) (show l.length < 4611686018427387904 by omega), hv, Bool.not_true, cond_false, f_impl_valueOk_eq, ho, f_slices_Clone_eq k h.lo (show l.length ≤ 1000000 by omega), ble_lim (show l.length + 1 ≤ 4294967296 by omega), cond_true,
    f_impl_placesOf_eq hk (l := l ++ [t]) (fun x hx => ⟨(hw x hx).1, by have := (hw x hx).2; omega⟩) (by omega), hl]
  rfl

/-- A form represents a value everywhere. -/
def evw (l : List Int) (t : Int) : Bool := (badV l t).isEmpty

theorem f_impl_ValueEverywhere_eq {R : Type} {k : Nat} (hk : 60000 ≤ k) {l : List Int} {t : Int} (h : Valid l) (ht : t ≠ 0 ∧ -30 ≤ t ∧ t ≤ 30) (K : Bool → Option R) : f_impl_ValueEverywhere k l t K = K (evw l t) := by
  have hhi := h.hi
  have hv : validL l = true := valid_iff.2 h
  have ho : okT t = true := okT_iff.2 ht
  simp only [f_impl_ValueEverywhere, f_impl_FormValid_eq h.sz (show l.length < k by omega) (show l.length < 4611686018427387904 by omega), hv, cond_true, f_impl_valueOk_eq, ho, f_impl_ValueBad_eq hk h ht]
  congr 1
  unfold evw
  cases badV l t with
  | nil => rfl
  | cons a r => simp; omega

theorem qf_append : ∀ (l v : List Int) (t d : Int), v.length = l.length → qf (l ++ [t]) (v ++ [d]) = qf l v + t * d * d
  | [], [], t, d, _ => by simp [qf]
  | a :: r, x :: s, t, d, h => by
    simp only [List.cons_append, qf, qf_append r s t d (by simpa using h)]
    omega
  | [], _ :: _, _, _, h => by simp at h
  | _ :: _, [], _, _, h => by simp at h

/-- What a form of at most three terms has as a value it represents everywhere. -/
theorem evw_of_value {l v : List Int} {t d : Int} (h : Valid l) (h3 : l.length ≤ 3) (ht : t ≠ 0 ∧ -30 ≤ t ∧ t ≤ 30) (hv : v.length = l.length) (hd : d ≠ 0) (hq : qf l v = t * d * d) : evw l t = true := by
  have hw := h.with ht
  have hT : Tm (l ++ [-t]) := fun x hx => by
    rcases List.mem_append.1 hx with hx | hx
    · exact h.t x hx
    · rw [List.mem_singleton] at hx; subst hx; omega
  have hlo := h.lo
  have hlen : (l ++ [-t]).length = l.length + 1 := by simp
  unfold evw badV
  rw [List.isEmpty_iff, List.filter_eq_nil_iff]
  intro p hp
  have hpl := placesL_plc (fun x hx => ⟨(hw x hx).1, by have := (hw x hx).2; omega⟩) hp
  have : rpr l t p = true := by
    unfold rpr
    rw [if_neg (by omega)]
    refine iso_van (hpl.imp id And.left) (hT.fine (by omega)) (by omega) (by omega) (x := v ++ [d]) (by simp [hv]) ?_ ⟨d, by simp, hd⟩
    rw [qf_append l v _ _ hv, hq, Int.neg_mul, Int.neg_mul]
    omega
  simp [this]

end Go.Proofs.Ytmmadcccjicdcaa.E
