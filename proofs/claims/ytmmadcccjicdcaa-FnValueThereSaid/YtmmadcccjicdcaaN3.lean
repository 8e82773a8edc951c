/- What has a zero vanishes at each place. -/
import Derived.Test.YtmmadcccjicdcaaN2
namespace Go.Proofs.Ytmmadcccjicdcaa.E
set_option linter.unusedVariables false
set_option linter.unusedSimpArgs false

/-- The value of a form at a vector. -/
def qf : List Int → List Int → Int
  | a :: r, x :: s => a * x * x + qf r s
  | _, _ => 0

abbrev En := Bool × Int × Int

def sumB (b : Bool) : List En → Int
  | [] => 0
  | (v, u, y) :: r => (if v = b then u * y * y else 0) + sumB b r
def prsB (b : Bool) : List En → List (Int × Int)
  | [] => []
  | (v, u, y) :: r => if v = b then (u, y) :: prsB b r else prsB b r
def sumP : List (Int × Int) → Int
  | [] => 0
  | (u, y) :: r => u * y * y + sumP r
def sizeT : List En → Nat
  | [] => 0
  | (v, u, y) :: r => y.natAbs + sizeT r
def usP : List (Int × Int) → List Int
  | [] => []
  | (u, y) :: r => u :: usP r

def Anis (p : Int) : List Int → Prop
  | [] => True
  | [u] => ¬ p ∣ u
  | [u, w] => ¬ p ∣ u ∧ ¬ p ∣ w ∧ ¬ QR p (-(u * w))
  | _ => False

theorem sumB_prs (b : Bool) : ∀ T, sumB b T = sumP (prsB b T)
  | [] => rfl
  | (v, u, y) :: r => by
    have := sumB_prs b r
    unfold sumB prsB
    split <;> simp [sumP, this]

theorem mem_prs {b : Bool} : ∀ {T : List En} {u y : Int}, (b, u, y) ∈ T → (u, y) ∈ prsB b T
  | (v, u', y') :: r, u, y, h => by
    unfold prsB
    rcases List.mem_cons.1 h with h | h
    · cases h; simp
    · have := mem_prs h
      split
      · exact List.mem_cons_of_mem _ this
      · exact this

theorem anis_two {p u w x y : Int} (hp : Pr p) (h : Anis p [u, w]) (hd : p ∣ u * x * x + w * y * y) : p ∣ x := by
  obtain ⟨h1, h2, h3⟩ := h
  by_cases hx : p ∣ x
  · exact hx
  exfalso
  obtain ⟨t, ht⟩ := inv_ex hp hx
  apply h3
  obtain ⟨c, hc⟩ := hd
  obtain ⟨d, hd⟩ := ht
  refine ⟨w * y * t, ?_⟩
  -- (w y t)^2 + u w = w * (w y^2 t^2 + u) and w y^2 = p c - u x^2, x t = 1 + p d
  have e : x * t = 1 + p * d := by omega
  refine ⟨w * (c * t * t - u * (2 * d + p * d * d)), ?_⟩
  have e2 : w * y * y = p * c - u * x * x := by omega
  have e3 : w * y * t * (w * y * t) = w * t * t * (w * y * y) := by grind
  rw [e3, e2]
  have e4 : x * t * (x * t) = (1 + p * d) * (1 + p * d) := by rw [e]
  grind

theorem anis_div {p : Int} (hp : Pr p) : ∀ P : List (Int × Int), Anis p (usP P) → p ∣ sumP P → ∀ e ∈ P, p ∣ e.2
  | [], _, _, e, he => by cases he
  | [(u, y)], h, hd, e, he => by
    simp only [List.mem_singleton] at he
    subst he
    simp only [sumP, Int.add_zero] at hd
    have h : ¬ p ∣ u := h
    rcases hp.dvd_mul hd with hd | hd
    · rcases hp.dvd_mul hd with hd | hd
      · exact absurd hd h
      · exact hd
    · exact hd
  | [(u, y), (w, z)], h, hd, e, he => by
    have h : Anis p [u, w] := h
    simp only [sumP, Int.add_zero] at hd
    simp only [List.mem_cons, List.not_mem_nil, or_false] at he
    rcases he with rfl | rfl
    · exact anis_two hp h hd
    · refine anis_two (u := w) (w := u) (y := y) hp ⟨h.2.1, h.1, by rw [Int.mul_comm w u]; exact h.2.2⟩ ?_
      rw [Int.add_comm]; exact hd
  | _ :: _ :: _ :: _, h, _, _, _ => h.elim

def divT (p : Int) : List En → List En
  | [] => []
  | (v, u, y) :: r => (v, u, y / p) :: divT p r

theorem us_divT (p : Int) (b : Bool) : ∀ T, usP (prsB b (divT p T)) = usP (prsB b T)
  | [] => rfl
  | (v, u, y) :: r => by
    have := us_divT p b r
    unfold divT prsB
    split <;> simp [usP, this]

theorem sum_divT {p : Int} (hp : 2 ≤ p) (b : Bool) : ∀ T : List En, (∀ e ∈ T, e.1 = b → p ∣ e.2.2) → sumB b T = p * p * sumB b (divT p T)
  | [], _ => by simp [sumB, divT]
  | (v, u, y) :: r, h => by
    have ih := sum_divT hp b r fun e he => h e (List.mem_cons_of_mem _ he)
    unfold sumB divT
    rw [ih]
    split
    · rename_i hv
      have h1 := h (v, u, y) (by simp) hv
      have e : p * (y / p) = y := Int.mul_ediv_cancel' h1
      simp only [sumB, hv, if_true]
      generalize y / p = z at *
      rw [← e]
      grind
    · rename_i hv
      simp only [sumB, hv, if_false]
      grind

theorem size_divT {p : Int} (hp : 2 ≤ p) : ∀ T : List En, (∀ e ∈ T, p ∣ e.2.2) → 2 * sizeT (divT p T) ≤ sizeT T
  | [], _ => by simp [sizeT, divT]
  | (v, u, y) :: r, h => by
    have ih := size_divT hp r fun e he => h e (List.mem_cons_of_mem _ he)
    have h1 := h (v, u, y) (by simp)
    have e : p * (y / p) = y := Int.mul_ediv_cancel' h1
    simp only [sizeT, divT]
    generalize y / p = z at *
    have hab : y.natAbs = p.natAbs * z.natAbs := by rw [← e, Int.natAbs_mul]
    have hb : 2 * z.natAbs ≤ p.natAbs * z.natAbs := Nat.mul_le_mul_right _ (by omega)
    omega

theorem zero_divT {p : Int} : ∀ T : List En, (∀ e ∈ T, p ∣ e.2.2) → (∀ e ∈ divT p T, e.2.2 = 0) → ∀ e ∈ T, e.2.2 = 0
  | [], _, _, e, he => by cases he
  | (v, u, y) :: r, h, h0, e, he => by
    rcases List.mem_cons.1 he with rfl | he
    · have h1 := h (v, u, y) (by simp)
      have h2 := h0 (v, u, y / p) (by simp [divT])
      obtain ⟨c, hc⟩ := h1
      have e : p * (y / p) = y := Int.mul_ediv_cancel' ⟨c, hc⟩
      simp only at h2 ⊢
      rw [← e, h2]; simp
    · exact zero_divT r (fun e he => h e (List.mem_cons_of_mem _ he)) (fun e he => h0 e (by simp only [divT]; exact List.mem_cons_of_mem _ he)) e he

theorem size_zero : ∀ T : List En, sizeT T = 0 → ∀ e ∈ T, e.2.2 = 0
  | [], _, e, he => by cases he
  | (v, u, y) :: r, h, e, he => by
    simp only [sizeT] at h
    rcases List.mem_cons.1 he with rfl | he
    · show y = 0; omega
    · exact size_zero r (by omega) e he

theorem descent_odd {p : Int} (hp : Pr p) : ∀ (n : Nat) (T : List En), sizeT T ≤ n → Anis p (usP (prsB false T)) → Anis p (usP (prsB true T)) → sumB false T + p * sumB true T = 0 → ∀ e ∈ T, e.2.2 = 0
  | 0, T, hn, _, _, _ => size_zero T (by omega)
  | n + 1, T, hn, h1, h2, h => by
    by_cases hz : sizeT T = 0
    · exact size_zero T hz
    have hp2 := hp.1
    have d1 : ∀ e ∈ T, e.1 = false → p ∣ e.2.2 := fun e he hv => by
      obtain ⟨v, u, y⟩ := e
      simp only at hv
      subst hv
      exact anis_div hp _ h1 (by rw [← sumB_prs]; exact ⟨-sumB true T, by grind⟩) (u, y) (mem_prs he)
    have s1 := sum_divT hp2 false T d1
    have h3 : p * (sumB true T + p * sumB false (divT p T)) = 0 := by rw [s1] at h; grind
    have h4 : sumB true T + p * sumB false (divT p T) = 0 := by
      rcases Int.mul_eq_zero.1 h3 with h | h
      · omega
      · exact h
    have d2 : ∀ e ∈ T, e.1 = true → p ∣ e.2.2 := fun e he hv => by
      obtain ⟨v, u, y⟩ := e
      simp only at hv
      subst hv
      exact anis_div hp _ h2 (by rw [← sumB_prs]; exact ⟨-sumB false (divT p T), by grind⟩) (u, y) (mem_prs he)
    have d : ∀ e ∈ T, p ∣ e.2.2 := fun e he => by
      cases hv : e.1 with
      | false => exact d1 e he hv
      | true => exact d2 e he hv
    have s2 := sum_divT hp2 true T d2
    have hs := size_divT hp2 T d
    refine zero_divT T d (descent_odd hp n (divT p T) (by omega) (by rw [us_divT]; exact h1) (by rw [us_divT]; exact h2) ?_)
    rw [s1, s2] at h
    have h5 : p * p * (sumB false (divT p T) + p * sumB true (divT p T)) = 0 := by grind
    rcases Int.mul_eq_zero.1 h5 with h | h
    · rcases Int.mul_eq_zero.1 h with h | h <;> omega
    · exact h

/-- The entries of a form and a vector at a prime. -/
def ent (p : Int) : List Int → List Int → List En
  | a :: r, x :: s => (odd a p, unt a p, p ^ (val a p / 2) * x) :: ent p r s
  | _, _ => []

theorem ent_sum {p : Int} (hp : 2 ≤ p) : ∀ (l x : List Int), Fine l → qf l x = sumB false (ent p l x) + p * sumB true (ent p l x)
  | [], x, _ => by simp [qf, ent, sumB]
  | a :: r, [], _ => by simp [qf, ent, sumB]
  | a :: r, x :: s, h => by
    have ih := ent_sum hp r s h.2.2
    have hb : (a * prodL r).natAbs = a.natAbs * (prodL r).natAbs := Int.natAbs_mul ..
    have k1 : a.natAbs * 1 ≤ a.natAbs * (prodL r).natAbs := Nat.mul_le_mul_left _ (by have := h.2.2.prod_ne; omega)
    obtain ⟨h1, _⟩ := val_spec (n := a) hp h.1 (by have := h.2.1; omega)
    simp only [qf, ent, sumB]
    rw [ih]
    have hv : val a p = 2 * (val a p / 2) + val a p % 2 := by omega
    generalize hk : val a p / 2 = k at *
    generalize unt a p = u at *
    unfold odd
    rcases (show val a p % 2 = 0 ∨ val a p % 2 = 1 by omega) with h0 | h0
    · have hd : decide (val a p % 2 = 1) = false := decide_eq_false (by omega)
      rw [hd]
      rw [h0] at hv
      rw [hv, Int.pow_add, Int.pow_mul] at h1
      have e : (p ^ 2) ^ k = p ^ k * p ^ k := by rw [← Int.pow_mul, Nat.two_mul, Int.pow_add]
      rw [e] at h1
      generalize p ^ k = q at *
      simp only [if_true, Bool.false_eq_true, if_false]
      rw [h1]
      grind
    · have hd : decide (val a p % 2 = 1) = true := decide_eq_true (by omega)
      rw [hd]
      rw [h0] at hv
      rw [hv, Int.pow_add, Int.pow_mul] at h1
      have e : (p ^ 2) ^ k = p ^ k * p ^ k := by rw [← Int.pow_mul, Nat.two_mul, Int.pow_add]
      rw [e] at h1
      generalize p ^ k = q at *
      simp only [if_true, Bool.true_eq_false, if_false]
      rw [h1]
      grind

theorem ent_zero {p : Int} (hp : 2 ≤ p) : ∀ (l x : List Int), x.length = l.length → (∀ e ∈ ent p l x, e.2.2 = 0) → ∀ y ∈ x, y = 0
  | [], [], _, _, y, hy => by cases hy
  | a :: r, x :: s, hl, h, y, hy => by
    rcases List.mem_cons.1 hy with rfl | hy
    · have := h _ (by simp only [ent]; exact List.mem_cons_self)
      rcases Int.mul_eq_zero.1 this with h0 | h0
      · have : (0 : Int) < p ^ (val a p / 2) := Int.pow_pos (by omega)
        omega
      · exact h0
    · exact ent_zero hp r s (by simpa using hl) (fun e he => h e (by simp only [ent]; exact List.mem_cons_of_mem _ he)) y hy
  | [], _ :: _, hl, _, _, _ => by simp at hl
  | _ :: _, [], _, _, y, hy => by cases hy

def selC (b : Bool) : List Cl → List Bool
  | [] => []
  | c :: r => if c.o = b then c.s :: selC b r else selC b r
def okC (e : Bool) : List Bool → Bool
  | [] => true
  | [_] => true
  | [s, t] => (s ^^ t) ^^ e
  | _ => false

theorem chk2 : ∀ e a b c d : Bool, Cl.van e [⟨a, b⟩, ⟨c, d⟩] = false → (okC e (selC false [⟨a, b⟩, ⟨c, d⟩]) && okC e (selC true [⟨a, b⟩, ⟨c, d⟩])) = true := by decide +kernel
theorem chk3 : ∀ e a b c d f g : Bool, Cl.van e [⟨a, b⟩, ⟨c, d⟩, ⟨f, g⟩] = false → (okC e (selC false [⟨a, b⟩, ⟨c, d⟩, ⟨f, g⟩]) && okC e (selC true [⟨a, b⟩, ⟨c, d⟩, ⟨f, g⟩])) = true := by decide +kernel
theorem chk4 : ∀ e a b c d f g h i : Bool, Cl.van e [⟨a, b⟩, ⟨c, d⟩, ⟨f, g⟩, ⟨h, i⟩] = false → (okC e (selC false [⟨a, b⟩, ⟨c, d⟩, ⟨f, g⟩, ⟨h, i⟩]) && okC e (selC true [⟨a, b⟩, ⟨c, d⟩, ⟨f, g⟩, ⟨h, i⟩])) = true := by decide +kernel

theorem chk {e : Bool} {l : List Cl} (h1 : 2 ≤ l.length) (h2 : l.length ≤ 4) (h : Cl.van e l = false) : (okC e (selC false l) && okC e (selC true l)) = true := by
  match l, h1, h2, h with
  | [⟨a, b⟩, ⟨c, d⟩], _, _, h => exact chk2 _ _ _ _ _ h
  | [⟨a, b⟩, ⟨c, d⟩, ⟨f, g⟩], _, _, h => exact chk3 _ _ _ _ _ _ _ h
  | [⟨a, b⟩, ⟨c, d⟩, ⟨f, g⟩, ⟨i, j⟩], _, _, h => exact chk4 _ _ _ _ _ _ _ _ _ h

theorem Fine.small {a : Int} {r : List Int} (h : Fine (a :: r)) : a ≠ 0 ∧ a.natAbs < 2 ^ 63 := by
  have hb : (a * prodL r).natAbs = a.natAbs * (prodL r).natAbs := Int.natAbs_mul ..
  have k1 : a.natAbs * 1 ≤ a.natAbs * (prodL r).natAbs := Nat.mul_le_mul_left _ (by have := h.2.2.prod_ne; omega)
  exact ⟨h.1, by have := h.2.1; omega⟩

/-- The units of a side, and their bits. -/
theorem sel_us {p : Int} (hp : 2 ≤ p) (b : Bool) : ∀ (l x : List Int), Fine l → x.length = l.length → (∀ u ∈ usP (prsB b (ent p l x)), ¬ p ∣ u) ∧ (usP (prsB b (ent p l x))).map (nb · p) = selC b (l.map (cl · p))
  | [], x, _, _ => by simp [ent, prsB, usP, selC]
  | a :: r, [], _, h => by simp at h
  | a :: r, x :: s, hf, hl => by
    obtain ⟨h1, h2⟩ := sel_us hp b r s hf.2.2 (by simpa using hl)
    obtain ⟨h3, h4⟩ := hf.small
    obtain ⟨_, h5, _⟩ := val_spec (n := a) hp h3 (by omega)
    have e : (cl a p).o = odd a p := rfl
    simp only [ent, prsB, List.map_cons, selC, e]
    split
    · simp only [usP, List.map_cons, h2]
      refine ⟨fun u hu => ?_, rfl⟩
      rcases List.mem_cons.1 hu with rfl | hu
      · exact h5
      · exact h1 u hu
    · exact ⟨h1, h2⟩

theorem ok_anis {p : Int} (hp : Pr p) (h2 : p ≠ 2) : ∀ us : List Int, (∀ u ∈ us, ¬ p ∣ u) → okC (nb (-1) p) (us.map (nb · p)) = true → Anis p us
  | [], _, _ => trivial
  | [u], h, _ => h u (by simp)
  | [u, w], h, hk => by
    have hu := h u (by simp)
    have hw := h w (by simp)
    have hp2 := hp.1
    have h1 : ¬ p ∣ (-1 : Int) := fun h => by have := small_dvd h (by omega) (by omega); omega
    refine ⟨hu, hw, fun hq => ?_⟩
    have e : -(u * w) = -1 * (u * w) := by omega
    rw [← nb_qr hp h2 (by rw [e]; exact hp.not_dvd_mul h1 (hp.not_dvd_mul hu hw)), e, nb_mul hp h2 h1 (hp.not_dvd_mul hu hw), nb_mul hp h2 hu hw] at hq
    simp only [List.map_cons, List.map_nil, okC] at hk
    revert hk hq
    cases nb u p <;> cases nb w p <;> cases nb (-1) p <;> simp
  | _ :: _ :: _ :: _, _, hk => by simp [okC] at hk

/-- At an odd prime. -/
theorem iso_odd {p : Int} (hp : Pr p) (hp2 : p ≠ 2) {l x : List Int} (hl : Fine l) (h1 : 2 ≤ l.length) (h2 : l.length ≤ 4) (hx : x.length = l.length) (h0 : qf l x = 0) (hne : ∃ y ∈ x, y ≠ 0) : van l p = true := by
  cases hv : van l p with
  | true => rfl
  | false =>
    exfalso
    rw [van_cl hp hp2 hl] at hv
    have hk := chk (by simpa using h1) (by simpa using h2) hv
    rw [Bool.and_eq_true] at hk
    obtain ⟨a1, a2⟩ := sel_us hp.1 false l x hl hx
    obtain ⟨b1, b2⟩ := sel_us hp.1 true l x hl hx
    rw [← a2, ← b2] at hk
    have := descent_odd hp _ (ent p l x) (Nat.le_refl _) (ok_anis hp hp2 _ a1 hk.1) (ok_anis hp hp2 _ b1 hk.2) (by rw [← ent_sum hp.1 l x hl]; exact h0)
    obtain ⟨y, hy, hy0⟩ := hne
    exact hy0 (ent_zero hp.1 l x hx this y hy)

/- At 2 -/
structure C2 where
  o : Bool
  s : Bool
  t : Bool

def cl2 (n : Int) : C2 := ⟨odd n 2, q4 (unt n 2), decide (4 ≤ unt n 2 % 8)⟩
def C2.mul (a b : C2) : C2 := ⟨a.o ^^ b.o, a.s ^^ b.s, a.t ^^ b.t⟩
def C2.one (a : C2) : Bool := !a.o && (!a.s && !a.t)
def C2.sy (a b : C2) : Bool := (a.s && b.s) ^^ ((a.o && (b.s ^^ b.t)) ^^ (b.o && (a.s ^^ a.t)))
def C2.prod : List C2 → C2
  | [] => ⟨false, false, false⟩
  | a :: r => a.mul (C2.prod r)
def C2.syL (a : C2) : List C2 → Bool
  | [] => false
  | b :: r => C2.sy b a ^^ C2.syL a r
def C2.inv : List C2 → Bool
  | [] => false
  | a :: r => C2.syL a r ^^ C2.inv r
def C2.neg : C2 := ⟨false, true, true⟩
def C2.van (f : List C2) : Bool :=
  match f.length with
  | 2 => (C2.mul C2.neg (C2.prod f)).one
  | 3 => C2.inv f == C2.sy C2.neg (C2.mul C2.neg (C2.prod f))
  | 4 => !(C2.prod f).one || (C2.inv f == C2.sy C2.neg C2.neg)
  | _ => false

theorem pr2 : Pr 2 := ⟨by decide, fun d h1 h2 => by have : 2 * 2 ≤ d * d := Int.mul_le_mul h1 h1 (by decide) (by omega); omega⟩

theorem two_odd {u : Int} : ¬ (2 : Int) ∣ u ↔ u % 2 = 1 := by omega

theorem q8_bits {u : Int} (h : u % 2 = 1) : q8 u = (q4 u ^^ decide (4 ≤ u % 8)) := by
  unfold q8 q4
  have h8 : u % 8 = 1 ∨ u % 8 = 3 ∨ u % 8 = 5 ∨ u % 8 = 7 := by omega
  have h4 : u % 4 = u % 8 % 4 := by omega
  rw [h4]
  rcases h8 with h | h | h | h <;> rw [h] <;> decide

theorem mul_mod8 {u v : Int} : u * v % 8 = (u % 8) * (v % 8) % 8 := Int.mul_emod ..

theorem bits_mul {u v : Int} (hu : u % 2 = 1) (hv : v % 2 = 1) : q4 (u * v) = (q4 u ^^ q4 v) ∧ decide (4 ≤ u * v % 8) = (decide (4 ≤ u % 8) ^^ decide (4 ≤ v % 8)) := by
  unfold q4
  have h8 : u % 8 = 1 ∨ u % 8 = 3 ∨ u % 8 = 5 ∨ u % 8 = 7 := by omega
  have k8 : v % 8 = 1 ∨ v % 8 = 3 ∨ v % 8 = 5 ∨ v % 8 = 7 := by omega
  have h4 : u % 4 = u % 8 % 4 := by omega
  have k4 : v % 4 = v % 8 % 4 := by omega
  have m4 : u * v % 4 = u * v % 8 % 4 := by omega
  rw [m4, h4, k4, mul_mod8]
  rcases h8 with h | h | h | h <;> rcases k8 with k | k | k | k <;> rw [h, k] <;> decide

theorem cl2_mul {a b : Int} (ha : a ≠ 0) (hb : b ≠ 0) (hn : (a * b).natAbs < 2 ^ 64) : cl2 (a * b) = (cl2 a).mul (cl2 b) := by
  have hm : (a * b).natAbs = a.natAbs * b.natAbs := Int.natAbs_mul ..
  have k1 : a.natAbs * 1 ≤ a.natAbs * b.natAbs := Nat.mul_le_mul_left _ (by omega)
  have k2 : 1 * b.natAbs ≤ a.natAbs * b.natAbs := Nat.mul_le_mul_right _ (by omega)
  obtain ⟨h1, h3⟩ := val_mul pr2 ha hb hn
  obtain ⟨_, h4, _⟩ := val_spec (n := a) (p := 2) (by omega) ha (by omega)
  obtain ⟨_, h5, _⟩ := val_spec (n := b) (p := 2) (by omega) hb (by omega)
  obtain ⟨b1, b2⟩ := bits_mul (two_odd.1 h4) (two_odd.1 h5)
  have ho : odd (a * b) 2 = (odd a 2 ^^ odd b 2) := by
    unfold odd
    rw [h1]
    rcases (show val a 2 % 2 = 0 ∨ val a 2 % 2 = 1 by omega) with x | x <;> rcases (show val b 2 % 2 = 0 ∨ val b 2 % 2 = 1 by omega) with y | y
    · rw [decide_eq_false (p := (val a 2 + val b 2) % 2 = 1) (by omega), decide_eq_false (p := val a 2 % 2 = 1) (by omega), decide_eq_false (p := val b 2 % 2 = 1) (by omega)]; rfl
    · rw [decide_eq_true (p := (val a 2 + val b 2) % 2 = 1) (by omega), decide_eq_false (p := val a 2 % 2 = 1) (by omega), decide_eq_true (p := val b 2 % 2 = 1) (by omega)]; rfl
    · rw [decide_eq_true (p := (val a 2 + val b 2) % 2 = 1) (by omega), decide_eq_true (p := val a 2 % 2 = 1) (by omega), decide_eq_false (p := val b 2 % 2 = 1) (by omega)]; rfl
    · rw [decide_eq_false (p := (val a 2 + val b 2) % 2 = 1) (by omega), decide_eq_true (p := val a 2 % 2 = 1) (by omega), decide_eq_true (p := val b 2 % 2 = 1) (by omega)]; rfl
  unfold cl2 C2.mul
  rw [ho, h3, b1, b2]

theorem cl2_neg_one : cl2 (-1) = C2.neg := by
  obtain ⟨h1, h3⟩ := unit_one (u := -1) (p := 2) (by decide) (by decide) (by decide) (by decide)
  unfold cl2 odd
  rw [h1, h3]; rfl

theorem cl2_prod : ∀ {l : List Int}, Fine l → cl2 (prodL l) = C2.prod (l.map cl2)
  | [], _ => by
    obtain ⟨h1, h3⟩ := unit_one (u := 1) (p := 2) (by decide) (by decide) (by decide) (by decide)
    simp only [prodL, cl2, odd, h1, h3]
    rfl
  | a :: r, h => by
    show cl2 (a * prodL r) = (cl2 a).mul (C2.prod (r.map cl2))
    rw [cl2_mul h.1 (Fine.prod_ne h.2.2) (by have := h.2.1; omega), cl2_prod h.2.2]

theorem unt_odd {n : Int} (h0 : n ≠ 0) (hn : n.natAbs < 2 ^ 64) : unt n 2 % 2 = 1 := by
  obtain ⟨_, h, _⟩ := val_spec (n := n) (p := 2) (by decide) h0 hn
  exact two_odd.1 h

theorem symb_cl2 {a b : Int} (ha : a ≠ 0) (hb : b ≠ 0) (ha' : a.natAbs < 2 ^ 64) (hb' : b.natAbs < 2 ^ 64) : symb a b 2 = C2.sy (cl2 a) (cl2 b) := by
  unfold symb
  rw [if_neg (by decide), if_pos rfl, q8_bits (unt_odd ha ha'), q8_bits (unt_odd hb hb')]
  rfl

theorem lsq_cl2 {n : Int} (h0 : n ≠ 0) (hn : n.natAbs < 2 ^ 64) : lsq n 2 = (cl2 n).one := by
  unfold lsq
  rw [if_neg (by decide), if_pos rfl]
  unfold C2.one cl2 q4
  have := unt_odd h0 hn
  generalize unt n 2 = u at *
  have h8 : u % 8 = 1 ∨ u % 8 = 3 ∨ u % 8 = 5 ∨ u % 8 = 7 := by omega
  have h4 : u % 4 = u % 8 % 4 := by omega
  rw [h4]
  rcases h8 with h | h | h | h <;> rw [h] <;> simp

theorem Fine.mem : ∀ {l : List Int}, Fine l → ∀ a ∈ l, a ≠ 0 ∧ a.natAbs < 2 ^ 63
  | _ :: _, h, a, ha => by
    rcases List.mem_cons.1 ha with rfl | ha
    · exact h.small
    · exact h.2.2.mem a ha

theorem inv_cl2 : ∀ l : List Int, (∀ a ∈ l, a ≠ 0 ∧ a.natAbs < 2 ^ 63) → inv 2 l = C2.inv (l.map cl2)
  | [], _ => rfl
  | a :: r, h => by
    have ha := h a (by simp)
    have : ∀ r : List Int, (∀ a ∈ r, a ≠ 0 ∧ a.natAbs < 2 ^ 63) → symL a 2 r = C2.syL (cl2 a) (r.map cl2) := by
      intro r hr
      induction r with
      | nil => rfl
      | cons b r ih =>
        have hb := hr b (by simp)
        simp only [symL, List.map_cons, C2.syL, symb_cl2 hb.1 ha.1 (by omega) (by omega), ih fun a ha => hr a (List.mem_cons_of_mem _ ha)]
    have hr : ∀ a ∈ r, a ≠ 0 ∧ a.natAbs < 2 ^ 63 := fun a ha => h a (List.mem_cons_of_mem _ ha)
    simp only [inv, List.map_cons, C2.inv, this r hr, inv_cl2 r hr]

theorem van_cl2 {l : List Int} (hl : Fine l) : van l 2 = C2.van (l.map cl2) := by
  unfold van C2.van
  rw [if_neg (by decide), List.length_map]
  have hb : (prodL l).natAbs < 2 ^ 63 := by
    cases l with
    | nil => simp [prodL]
    | cons a r => exact hl.2.1
  have hp0 := hl.prod_ne
  have hneg : cl2 (-prodL l) = C2.mul C2.neg (C2.prod (l.map cl2)) := by
    have e : -prodL l = -1 * prodL l := by omega
    rw [e, cl2_mul (by omega) hl.prod_ne (by omega), cl2_neg_one, cl2_prod hl]
  by_cases l2 : l.length = 2
  · simp only [l2]
    rw [lsq_cl2 (by omega) (by omega), hneg]
  by_cases l3 : l.length = 3
  · simp only [l3]
    rw [inv_cl2 l hl.mem, symb_cl2 (by omega) (by omega) (by omega) (by omega), hneg, cl2_neg_one]
  by_cases l4 : l.length = 4
  · simp only [l4]
    rw [inv_cl2 l hl.mem, symb_cl2 (by omega) (by omega) (by omega) (by omega), lsq_cl2 hp0 (by omega), cl2_neg_one, cl2_prod hl]
  · split <;> first | contradiction | (split <;> first | contradiction | rfl)

def C2.w (b : Bool) (c : C2) : Nat := (1 + (cond c.s 2 0) + (cond c.t 4 0)) * (if c.o = b then 1 else 2)

def noSol (b : Bool) : List C2 → Nat → Bool → Bool
  | [], acc, seen => !(seen && Nat.beq (acc % 8) 0)
  | c :: r, acc, seen => noSol b r acc seen && (noSol b r (acc + C2.w b c) (seen || (c.o == b)) && noSol b r (acc + 4 * C2.w b c) seen)

def chkAt (l : List C2) : Bool := C2.van l || (noSol false l 0 false && noSol true l 0 false)
def all8 (f : C2 → Bool) : Bool := f ⟨false, false, false⟩ && (f ⟨false, false, true⟩ && (f ⟨false, true, false⟩ && (f ⟨false, true, true⟩ && (f ⟨true, false, false⟩ && (f ⟨true, false, true⟩ && (f ⟨true, true, false⟩ && f ⟨true, true, true⟩))))))
theorem all8_spec {f : C2 → Bool} (h : all8 f = true) (c : C2) : f c = true := by
  simp only [all8, Bool.and_eq_true] at h
  obtain ⟨a1, a2, a3, a4, a5, a6, a7, a8⟩ := h
  obtain ⟨o, s, t⟩ := c
  cases o <;> cases s <;> cases t <;> assumption

theorem chk2_2 : (all8 fun a => all8 fun b => chkAt [a, b]) = true := by decide +kernel
theorem chk2_3 : (all8 fun a => all8 fun b => all8 fun c => chkAt [a, b, c]) = true := by decide +kernel
theorem chk2_4 : (all8 fun a => all8 fun b => all8 fun c => all8 fun d => chkAt [a, b, c, d]) = true := by decide +kernel

theorem chk2_all {l : List C2} (h1 : 2 ≤ l.length) (h2 : l.length ≤ 4) (h : C2.van l = false) : noSol false l 0 false = true ∧ noSol true l 0 false = true := by
  have key : chkAt l = true := by
    match l, h1, h2 with
    | [a, b], _, _ => exact all8_spec (all8_spec chk2_2 a) b
    | [a, b, c], _, _ => exact all8_spec (all8_spec (all8_spec chk2_3 a) b) c
    | [a, b, c, d], _, _ => exact all8_spec (all8_spec (all8_spec (all8_spec chk2_4 a) b) c) d
  unfold chkAt at key
  rw [h, Bool.false_or, Bool.and_eq_true] at key
  exact key

def enC (e : En) : C2 := ⟨e.1, q4 e.2.1, decide (4 ≤ e.2.1 % 8)⟩

theorem w_mod {b o : Bool} {u y : Int} (hu : u % 2 = 1) : ∃ c : Int, (C2.w b (enC (o, u, y)) : Int) = (if o = b then u else 2 * u) + 8 * c := by
  have h8 : u % 8 = 1 ∨ u % 8 = 3 ∨ u % 8 = 5 ∨ u % 8 = 7 := by omega
  have hw : ((1 + (cond (enC (o, u, y)).s 2 0) + (cond (enC (o, u, y)).t 4 0) : Nat) : Int) = u % 8 := by
    simp only [enC, q4]
    have h4 : u % 4 = u % 8 % 4 := by omega
    rw [h4]
    rcases h8 with h | h | h | h <;> rw [h] <;> decide
  unfold C2.w
  rw [Int.natCast_mul, hw]
  show ∃ c : Int, u % 8 * ((if o = b then 1 else 2 : Nat) : Int) = _
  split
  · exact ⟨-(u / 8), by omega⟩
  · exact ⟨-(2 * (u / 8)), by omega⟩

theorem noSol_sound (b : Bool) : ∀ (T : List En) (acc : Nat) (seen : Bool), (∀ e ∈ T, e.2.1 % 2 = 1) → noSol b (T.map enC) acc seen = true → (8 : Int) ∣ acc + sumB b T + 2 * sumB (!b) T → seen = false ∧ ∀ e ∈ T, e.1 = b → (2 : Int) ∣ e.2.2
  | [], acc, seen, _, h, hd => by
    simp only [List.map_nil, noSol, sumB] at h hd
    refine ⟨?_, fun e he => by cases he⟩
    have : acc % 8 = 0 := by omega
    rw [this] at h
    cases seen <;> simp_all
  | (o, u, y) :: r, acc, seen, hu, h, hd => by
    have hu1 := hu (o, u, y) (by simp)
    have hur : ∀ e ∈ r, e.2.1 % 2 = 1 := fun e he => hu e (List.mem_cons_of_mem _ he)
    obtain ⟨c, hc⟩ := w_mod (b := b) (o := o) (y := y) hu1
    rw [List.map_cons, noSol, Bool.and_eq_true, Bool.and_eq_true] at h
    obtain ⟨g1, g2, g3⟩ := h
    simp only [sumB] at hd
    have hnb : (o = !b) ↔ ¬ o = b := by cases o <;> cases b <;> simp
    -- the head's share, by u's weight
    obtain ⟨W, hW⟩ : ∃ W : Int, W = (if o = b then u else 2 * u) := ⟨_, rfl⟩
    rw [← hW] at hc
    have hshare : (if o = b then u * y * y else 0) + sumB b r + 2 * ((if o = !b then u * y * y else 0) + sumB (!b) r) = W * (y * y) + (sumB b r + 2 * sumB (!b) r) := by
      rw [hW]
      by_cases ho : o = b
      · have : ¬ o = !b := fun h => (hnb.1 h) ho
        simp only [ho, if_true, this, if_false]
        have : ¬ b = !b := by cases b <;> simp
        simp only [this, if_false]
        grind
      · have := hnb.2 ho
        simp only [ho, if_false, this, if_true]
        have : ¬ (!b) = b := by cases b <;> simp
        simp only [this, if_false]
        grind
    have hd' : (8 : Int) ∣ acc + W * (y * y) + (sumB b r + 2 * sumB (!b) r) := by
      have e : (acc : Int) + ((if o = b then u * y * y else 0) + sumB b r) + 2 * ((if o = !b then u * y * y else 0) + sumB (!b) r) = acc + ((if o = b then u * y * y else 0) + sumB b r + 2 * ((if o = !b then u * y * y else 0) + sumB (!b) r)) := by omega
      rw [e, hshare] at hd
      rw [Int.add_assoc]; exact hd
    generalize hR : sumB b r + 2 * sumB (!b) r = R at *
    have hy8 : (∃ k, y * y = 8 * k + 1 ∧ y % 2 = 1) ∨ (∃ k, y * y = 8 * k + 4 ∧ y % 2 = 0) ∨ (∃ k, y * y = 8 * k ∧ y % 2 = 0) := by
      rcases (show y % 4 = 0 ∨ y % 4 = 1 ∨ y % 4 = 2 ∨ y % 4 = 3 by omega) with h | h | h | h
      · obtain ⟨z, rfl⟩ : ∃ z, y = 4 * z := ⟨y / 4, by omega⟩
        exact .inr (.inr ⟨2 * z * z, by grind, by omega⟩)
      · obtain ⟨z, rfl⟩ : ∃ z, y = 4 * z + 1 := ⟨y / 4, by omega⟩
        exact .inl ⟨2 * z * z + z, by grind, by omega⟩
      · obtain ⟨z, rfl⟩ : ∃ z, y = 4 * z + 2 := ⟨y / 4, by omega⟩
        exact .inr (.inl ⟨2 * z * z + 2 * z, by grind, by omega⟩)
      · obtain ⟨z, rfl⟩ : ∃ z, y = 4 * z + 3 := ⟨y / 4, by omega⟩
        exact .inl ⟨2 * z * z + 3 * z + 1, by grind, by omega⟩
    obtain ⟨m, hm⟩ := hd'
    rcases hy8 with ⟨k, hk, hy⟩ | ⟨k, hk, hy⟩ | ⟨k, hk, hy⟩
    · rw [hk] at hm
      obtain ⟨a1, a2⟩ := noSol_sound b r _ _ hur g2 (by
        refine ⟨m - W * k + c, ?_⟩
        rw [Int.natCast_add, hc]
        have : (acc : Int) + (W + 8 * c) + sumB b r + 2 * sumB (!b) r = acc + (W + 8 * c) + R := by omega
        rw [this]; grind)
      simp only [enC, Bool.or_eq_false_iff, beq_eq_false_iff_ne, ne_eq] at a1
      refine ⟨a1.1, fun e he hv => ?_⟩
      rcases List.mem_cons.1 he with rfl | he
      · exact absurd hv a1.2
      · exact a2 e he hv
    · rw [hk] at hm
      obtain ⟨a1, a2⟩ := noSol_sound b r _ _ hur g3 (by
        refine ⟨m - W * k + 4 * c, ?_⟩
        rw [Int.natCast_add, Int.natCast_mul, hc]
        have : (acc : Int) + ((4 : Nat) : Int) * (W + 8 * c) + sumB b r + 2 * sumB (!b) r = acc + 4 * (W + 8 * c) + R := by omega
        rw [this]; grind)
      refine ⟨a1, fun e he hv => ?_⟩
      rcases List.mem_cons.1 he with rfl | he
      · show (2 : Int) ∣ y; omega
      · exact a2 e he hv
    · rw [hk] at hm
      obtain ⟨a1, a2⟩ := noSol_sound b r _ _ hur g1 (by
        refine ⟨m - W * k, ?_⟩
        have : (acc : Int) + sumB b r + 2 * sumB (!b) r = acc + R := by omega
        rw [this]; grind)
      refine ⟨a1, fun e he hv => ?_⟩
      rcases List.mem_cons.1 he with rfl | he
      · show (2 : Int) ∣ y; omega
      · exact a2 e he hv

theorem enC_divT (p : Int) : ∀ T : List En, (divT p T).map enC = T.map enC
  | [] => rfl
  | (v, u, y) :: r => by simp only [divT, List.map_cons, enC_divT p r]; rfl

theorem odd_divT {p : Int} : ∀ T : List En, (∀ e ∈ T, e.2.1 % 2 = 1) → ∀ e ∈ divT p T, e.2.1 % 2 = 1
  | [], _, e, he => by cases he
  | (v, u, y) :: r, h, e, he => by
    simp only [divT] at he
    rcases List.mem_cons.1 he with rfl | he
    · exact h (v, u, y) (by simp)
    · exact odd_divT r (fun e he => h e (List.mem_cons_of_mem _ he)) e he

/-- Halving one side alone. -/
def halfT : List En → List En
  | [] => []
  | (v, u, y) :: r => (v, u, if v = false then y / 2 else y) :: halfT r

theorem enC_halfT : ∀ T : List En, (halfT T).map enC = T.map enC
  | [] => rfl
  | (v, u, y) :: r => by simp only [halfT, List.map_cons, enC_halfT r]; rfl
theorem odd_halfT : ∀ T : List En, (∀ e ∈ T, e.2.1 % 2 = 1) → ∀ e ∈ halfT T, e.2.1 % 2 = 1
  | [], _, e, he => by cases he
  | (v, u, y) :: r, h, e, he => by
    simp only [halfT] at he
    rcases List.mem_cons.1 he with rfl | he
    · exact h (v, u, y) (by simp)
    · exact odd_halfT r (fun e he => h e (List.mem_cons_of_mem _ he)) e he
theorem sum_halfT_true : ∀ T : List En, sumB true (halfT T) = sumB true T
  | [] => rfl
  | (v, u, y) :: r => by simp only [halfT, sumB, sum_halfT_true r]; cases v <;> simp
theorem sum_halfT_false : ∀ T : List En, sumB false (halfT T) = sumB false (divT 2 T)
  | [] => rfl
  | (v, u, y) :: r => by simp only [halfT, divT, sumB, sum_halfT_false r]; cases v <;> simp
theorem mem_halfT : ∀ (T : List En) (e : En), e ∈ T → e.1 = true → e ∈ halfT T
  | (v, u, y) :: r, e, he, hv => by
    simp only [halfT]
    rcases List.mem_cons.1 he with rfl | he
    · simp only at hv; subst hv; simp
    · exact List.mem_cons_of_mem _ (mem_halfT r e he hv)

theorem descent_two : ∀ (n : Nat) (T : List En), sizeT T ≤ n → (∀ e ∈ T, e.2.1 % 2 = 1) → noSol false (T.map enC) 0 false = true → noSol true (T.map enC) 0 false = true → sumB false T + 2 * sumB true T = 0 → ∀ e ∈ T, e.2.2 = 0
  | 0, T, hn, _, _, _, _ => size_zero T (by omega)
  | n + 1, T, hn, hu, h1, h2, h => by
    by_cases hz : sizeT T = 0
    · exact size_zero T hz
    have d1 := (noSol_sound false T 0 false hu h1 (by
      have : ((0 : Nat) : Int) + sumB false T + 2 * sumB (!false) T = 0 := by simpa using h
      rw [this]; exact Int.dvd_zero _)).2
    have s1 := sum_divT (p := 2) (by decide) false T d1
    have d2 := (noSol_sound true (halfT T) 0 false (odd_halfT T hu) (by rw [enC_halfT]; exact h2) (by
      have e : ((0 : Nat) : Int) + sumB true (halfT T) + 2 * sumB (!true) (halfT T) = sumB true T + 2 * sumB false (divT 2 T) := by
        rw [sum_halfT_true]; simp [sum_halfT_false]
      rw [e]
      have : sumB true T + 2 * sumB false (divT 2 T) = 0 := by omega
      rw [this]; exact Int.dvd_zero _)).2
    have d : ∀ e ∈ T, (2 : Int) ∣ e.2.2 := fun e he => by
      cases hv : e.1 with
      | false => exact d1 e he hv
      | true => exact d2 e (mem_halfT T e he hv) hv
    have s2 := sum_divT (p := 2) (by decide) true T fun e he _ => d e he
    have hs := size_divT (p := 2) (by decide) T d
    refine zero_divT T d (descent_two n (divT 2 T) (by omega) (odd_divT T hu) (by rw [enC_divT]; exact h1) (by rw [enC_divT]; exact h2) ?_)
    omega

theorem ent_enC : ∀ (l x : List Int), Fine l → x.length = l.length → (ent 2 l x).map enC = l.map cl2 ∧ ∀ e ∈ ent 2 l x, e.2.1 % 2 = 1
  | [], x, _, _ => by simp [ent]
  | a :: r, [], _, h => by simp at h
  | a :: r, x :: s, hf, hl => by
    obtain ⟨h1, h2⟩ := ent_enC r s hf.2.2 (by simpa using hl)
    obtain ⟨h3, h4⟩ := hf.small
    simp only [ent, List.map_cons, h1]
    refine ⟨rfl, fun e he => ?_⟩
    rcases List.mem_cons.1 he with rfl | he
    · exact unt_odd h3 (by omega)
    · exact h2 e he

theorem iso_two {l x : List Int} (hl : Fine l) (h1 : 2 ≤ l.length) (h2 : l.length ≤ 4) (hx : x.length = l.length) (h0 : qf l x = 0) (hne : ∃ y ∈ x, y ≠ 0) : van l 2 = true := by
  cases hv : van l 2 with
  | true => rfl
  | false =>
    exfalso
    rw [van_cl2 hl] at hv
    obtain ⟨k1, k2⟩ := chk2_all (by simpa using h1) (by simpa using h2) hv
    obtain ⟨a1, a2⟩ := ent_enC l x hl hx
    rw [← a1] at k1 k2
    have := descent_two _ (ent 2 l x) (Nat.le_refl _) a2 k1 k2 (by rw [← ent_sum (by decide) l x hl]; exact h0)
    obtain ⟨y, hy, hy0⟩ := hne
    exact hy0 (ent_zero (by decide) l x hx this y hy)

/- At 0 -/
theorem sqn (x : Int) : 0 ≤ x * x := by
  rcases Int.le_total 0 x with h | h
  · exact Int.mul_nonneg h h
  · exact Int.mul_nonneg_of_nonpos_of_nonpos h h

theorem qf_pos : ∀ (l x : List Int), x.length = l.length → (∀ a ∈ l, 0 < a) → 0 ≤ qf l x ∧ (qf l x = 0 → ∀ y ∈ x, y = 0)
  | [], [], _, _ => by simp [qf]
  | a :: r, x :: s, hl, h => by
    obtain ⟨h1, h2⟩ := qf_pos r s (by simpa using hl) fun a ha => h a (List.mem_cons_of_mem _ ha)
    have ha := h a (by simp)
    have h3 : 0 ≤ a * x * x := by rw [Int.mul_assoc]; exact Int.mul_nonneg (by omega) (sqn x)
    simp only [qf]
    refine ⟨by omega, fun h0 y hy => ?_⟩
    rcases List.mem_cons.1 hy with rfl | hy
    · have : a * y * y = 0 := by omega
      rcases Int.mul_eq_zero.1 this with h | h
      · rcases Int.mul_eq_zero.1 h with h | h
        · omega
        · exact h
      · exact h
    · exact h2 (by omega) y hy
  | [], _ :: _, hl, _ => by simp at hl
  | _ :: _, [], hl, _ => by simp at hl

theorem less_zero : ∀ l : List Int, (∀ a ∈ l, a ≠ 0) → lessL l = 0 → ∀ a ∈ l, 0 < a
  | [], _, _, a, ha => by cases ha
  | b :: r, h0, h, a, ha => by
    simp only [lessL] at h
    have hb := h0 b (by simp)
    have hb2 : ¬ b < 0 := fun hn => by rw [if_pos hn] at h; omega
    rw [if_neg hb2] at h
    rcases List.mem_cons.1 ha with rfl | ha
    · omega
    · exact less_zero r (fun a ha => h0 a (List.mem_cons_of_mem _ ha)) (by omega) a ha

theorem less_le : ∀ l : List Int, lessL l ≤ l.length
  | [] => Nat.le_refl _
  | b :: r => by have := less_le r; simp only [lessL, List.length_cons]; split <;> omega

theorem less_all : ∀ l : List Int, l.length ≤ lessL l → ∀ a ∈ l, a < 0
  | [], _, a, ha => by cases ha
  | b :: r, h, a, ha => by
    simp only [lessL, List.length_cons] at h
    have := less_le r
    have hb : b < 0 := by
      rcases Int.lt_or_le b 0 with hb | hb
      · exact hb
      · rw [if_neg (by omega)] at h; omega
    rw [if_pos hb] at h
    rcases List.mem_cons.1 ha with rfl | ha
    · exact hb
    · exact less_all r (by omega) a ha

theorem qf_neg : ∀ (l x : List Int), qf (l.map (- ·)) x = - qf l x
  | [], x => by simp [qf]
  | a :: r, [] => by simp [qf]
  | a :: r, x :: s => by simp only [List.map_cons, qf, qf_neg r s]; grind

theorem iso_real {l x : List Int} (hl : ∀ a ∈ l, a ≠ 0) (hx : x.length = l.length) (h0 : qf l x = 0) (hne : ∃ y ∈ x, y ≠ 0) : van l 0 = true := by
  obtain ⟨y, hy, hy0⟩ := hne
  unfold van
  rw [if_pos rfl, Bool.and_eq_true, decide_eq_true_eq, decide_eq_true_eq]
  constructor
  · rcases Nat.eq_zero_or_pos (lessL l) with h | h
    · exact absurd ((qf_pos l x hx (less_zero l hl h)).2 h0 y hy) hy0
    · exact h
  · rcases Nat.lt_or_ge (lessL l) l.length with h | h
    · exact h
    · have hn := less_all l h
      refine absurd ((qf_pos (l.map (- ·)) x (by simpa using hx) (fun a ha => ?_)).2 (by rw [qf_neg, h0]; rfl) y hy) hy0
      obtain ⟨b, hb, rfl⟩ := List.mem_map.1 ha
      have := hn b hb
      show 0 < -b
      omega

/-- What has a zero vanishes at each place. -/
theorem iso_van {p : Int} (hp : p = 0 ∨ Pr p) {l x : List Int} (hl : Fine l) (h1 : 2 ≤ l.length) (h2 : l.length ≤ 4) (hx : x.length = l.length) (h0 : qf l x = 0) (hne : ∃ y ∈ x, y ≠ 0) : van l p = true := by
  rcases hp with rfl | hp
  · exact iso_real (fun a ha => (hl.mem a ha).1) hx h0 hne
  · by_cases h : p = 2
    · subst h; exact iso_two hl h1 h2 hx h0 hne
    · exact iso_odd hp h hl h1 h2 hx h0 hne

end Go.Proofs.Ytmmadcccjicdcaa.E
