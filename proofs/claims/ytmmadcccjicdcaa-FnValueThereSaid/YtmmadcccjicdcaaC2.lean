/- Counting vectors: sums over all vectors of some size. Plain. -/
import Derived.Test.YtmmadcccjicdcaaM2
import Derived.Test.YtmmadcccjicdcaaN3
namespace Go.Proofs.Ytmmadcccjicdcaa.E
set_option linter.unusedVariables false
set_option linter.unusedSimpArgs false

theorem sumR_congr {g h : Int → Int} : ∀ (c : Nat) (lo : Int), (∀ x, lo ≤ x → x < lo + c → g x = h x) → sumR lo c g = sumR lo c h
  | 0, lo, _ => rfl
  | c + 1, lo, e => by
    simp only [sumR]
    rw [e lo (by omega) (by omega), sumR_congr c (lo + 1) fun x h1 h2 => e x (by omega) (by omega)]

theorem sumR_mono {g h : Int → Int} : ∀ (c : Nat) (lo : Int), (∀ x, lo ≤ x → x < lo + c → g x ≤ h x) → sumR lo c g ≤ sumR lo c h
  | 0, lo, _ => Int.le_refl _
  | c + 1, lo, e => by
    have h1 := e lo (by omega) (by omega)
    have h2 := sumR_mono c (lo + 1) fun x h1 h2 => e x (by omega) (by omega)
    simp only [sumR]; omega

theorem sumR_add (g h : Int → Int) : ∀ (c : Nat) (lo : Int), sumR lo c (fun x => g x + h x) = sumR lo c g + sumR lo c h
  | 0, lo => rfl
  | c + 1, lo => by simp only [sumR, sumR_add g h c (lo + 1)]; omega

theorem sumR_last (g : Int → Int) : ∀ (c : Nat) (lo : Int), sumR lo (c + 1) g = sumR lo c g + g (lo + c)
  | 0, lo => by simp [sumR]
  | c + 1, lo => by
    have h := sumR_last g c (lo + 1)
    rw [sumR, h]
    simp only [sumR]
    have e : lo + 1 + (c : Int) = lo + ((c + 1 : Nat) : Int) := by omega
    rw [e]; omega

theorem sumR_nonneg {g : Int → Int} (c : Nat) (lo : Int) (h : ∀ x, 0 ≤ g x) : 0 ≤ sumR lo c g := by
  induction c generalizing lo with
  | zero => simp [sumR]
  | succ c ih => have := h lo; have := ih (lo + 1); simp only [sumR]; omega

theorem sumR_neg (g : Int → Int) : ∀ (c : Nat) (lo : Int), sumR lo c g = sumR (1 - lo - c) c fun x => g (-x)
  | 0, lo => rfl
  | c + 1, lo => by
    rw [sumR, sumR_last (fun x => g (-x))]
    have e1 : -(1 - lo - ((c + 1 : Nat) : Int) + (c : Int)) = lo := by omega
    have e2 : (1 : Int) - (lo + 1) - (c : Int) = 1 - lo - ((c + 1 : Nat) : Int) := by omega
    rw [e1, sumR_neg g c (lo + 1), e2]
    omega

/-- The sum of f over all vectors of m integers of size at most n. -/
def sumV (n : Int) : Nat → (List Int → Int) → Int
  | 0, f => f []
  | m + 1, f => sumR (-n) (2 * n + 1).toNat fun x => sumV n m fun v => f (x :: v)

theorem sumV_congr {n : Int} : ∀ (m : Nat) {f g : List Int → Int}, (∀ v, v.length = m → f v = g v) → sumV n m f = sumV n m g
  | 0, f, g, h => h [] rfl
  | m + 1, f, g, h => sumR_congr _ _ fun x _ _ => sumV_congr m fun v hv => h (x :: v) (by simp [hv])

theorem sumV_mono {n : Int} : ∀ (m : Nat) {f g : List Int → Int}, (∀ v, v.length = m → f v ≤ g v) → sumV n m f ≤ sumV n m g
  | 0, f, g, h => h [] rfl
  | m + 1, f, g, h => sumR_mono _ _ fun x _ _ => sumV_mono m fun v hv => h (x :: v) (by simp [hv])

theorem sumV_add {n : Int} : ∀ (m : Nat) (f g : List Int → Int), sumV n m (fun v => f v + g v) = sumV n m f + sumV n m g
  | 0, f, g => rfl
  | m + 1, f, g => by
    simp only [sumV]
    rw [← sumR_add]
    exact sumR_congr _ _ fun x _ _ => sumV_add m _ _

theorem sumV_nonneg {n : Int} : ∀ (m : Nat) {f : List Int → Int}, (∀ v, 0 ≤ f v) → 0 ≤ sumV n m f
  | 0, f, h => h []
  | m + 1, f, h => sumR_nonneg _ _ fun x => sumV_nonneg m fun v => h (x :: v)

theorem sumV_neg {n : Int} (hn : 0 ≤ n) : ∀ (m : Nat) (f : List Int → Int), sumV n m f = sumV n m fun v => f (v.map (- ·))
  | 0, f => rfl
  | m + 1, f => by
    simp only [sumV, List.map_cons]
    rw [sumR_neg]
    have e : 1 - -n - ((2 * n + 1).toNat : Int) = -n := by omega
    rw [e]
    exact sumR_congr _ _ fun x _ _ => sumV_neg hn m fun v => f (-x :: v)

theorem sumR_wide {g : Int → Int} (h : ∀ x, 0 ≤ g x) {n : Int} (hn : 0 ≤ n) : sumR (-n) (2 * n + 1).toNat g ≤ sumR (-(n + 1)) (2 * (n + 1) + 1).toNat g := by
  have e : (2 * (n + 1) + 1).toNat = (2 * n + 1).toNat + 1 + 1 := by omega
  rw [e, sumR, sumR_last]
  have e2 : -(n + 1) + 1 = -n := by omega
  rw [e2]
  have := h (-(n + 1))
  have := h (-n + ((2 * n + 1).toNat : Int))
  omega

theorem sumV_wide {n : Int} (hn : 0 ≤ n) : ∀ (m : Nat) {f : List Int → Int}, (∀ v, 0 ≤ f v) → sumV n m f ≤ sumV (n + 1) m f
  | 0, f, h => Int.le_refl _
  | m + 1, f, h => by
    simp only [sumV]
    refine Int.le_trans (sumR_mono _ _ fun x _ _ => sumV_wide hn m fun v => h (x :: v)) ?_
    exact sumR_wide (fun x => sumV_nonneg m fun v => h (x :: v)) hn

/-- Is the first integer that is not 0 greater than 0? -/
def posV : List Int → Bool
  | [] => false
  | x :: r => if x = 0 then posV r else decide (0 < x)
def zeroV : List Int → Bool
  | [] => true
  | x :: r => decide (x = 0) && zeroV r

theorem posV_part : ∀ v : List Int, (if posV v then (1 : Int) else 0) + (if posV (v.map (- ·)) then 1 else 0) + (if zeroV v then 1 else 0) = 1
  | [] => by simp [posV, zeroV]
  | x :: r => by
    have ih := posV_part r
    simp only [posV, zeroV, List.map_cons]
    by_cases h0 : x = 0
    · simp only [h0, Int.neg_zero, if_true, decide_true, Bool.true_and]
      exact ih
    · have h1 : ¬ -x = 0 := by omega
      simp only [h0, h1, if_false, decide_false, Bool.false_and, Bool.false_eq_true, decide_eq_true_eq]
      split <;> split <;> omega

theorem sumR_pick {g : Int → Int} : ∀ (c : Nat) (lo : Int), (∀ x, x ≠ 0 → g x = 0) → lo ≤ 0 → 0 < lo + c → sumR lo c g = g 0
  | 0, lo, h, h1, h2 => by omega
  | c + 1, lo, h, h1, h2 => by
    simp only [sumR]
    by_cases h0 : lo = 0
    · subst h0
      have : sumR (0 + 1) c g = 0 := by
        have hz : ∀ (c : Nat) (lo : Int), 0 < lo → sumR lo c g = 0 := by
          intro c
          induction c with
          | zero => intro lo _; rfl
          | succ c ih => intro lo hlo; simp only [sumR]; rw [h lo (by omega), ih (lo + 1) (by omega)]; rfl
        exact hz c (0 + 1) (by omega)
      rw [this]; omega
    · rw [h lo h0, sumR_pick c (lo + 1) h (by omega) (by omega)]; omega

theorem sumR_const : ∀ (c : Nat) (lo : Int), sumR lo c (fun _ => (0 : Int)) = 0
  | 0, lo => rfl
  | c + 1, lo => by simp only [sumR, sumR_const c (lo + 1)]; rfl

theorem sumV_const {n : Int} : ∀ m : Nat, sumV n m (fun _ => (0 : Int)) = 0
  | 0 => rfl
  | m + 1 => by
    simp only [sumV, sumV_const m]
    exact sumR_const _ _

theorem sumV_zero {n : Int} (hn : 0 ≤ n) : ∀ (m : Nat) (f : List Int → Int), sumV n m (fun v => if zeroV v then f v else 0) = f (List.replicate m 0)
  | 0, f => by simp [sumV, zeroV]
  | m + 1, f => by
    simp only [sumV]
    rw [sumR_pick _ _ (fun x hx => ?_) (by omega) (by omega)]
    · have := sumV_zero hn m fun v => f (0 :: v)
      simp only [zeroV, decide_true, Bool.true_and, List.replicate_succ]
      exact this
    · have : sumV n m (fun v => if zeroV (x :: v) then f (x :: v) else 0) = sumV n m fun _ => 0 := sumV_congr m fun v _ => by simp [zeroV, hx]
      rw [this]
      exact sumV_const m

/-- An even function: twice what is of the first kind, and what is at 0. -/
theorem sumV_even {n : Int} (hn : 0 ≤ n) (m : Nat) {f : List Int → Int} (h : ∀ v, f (v.map (- ·)) = f v) : sumV n m f = 2 * sumV n m (fun v => if posV v then f v else 0) + f (List.replicate m 0) := by
  have e : sumV n m f = sumV n m fun v => ((if posV v then f v else 0) + (if posV (v.map (- ·)) then f (v.map (- ·)) else 0)) + (if zeroV v then f v else 0) := sumV_congr m fun v _ => by
    have := posV_part v
    rw [h v]
    revert this
    cases posV v <;> cases posV (v.map (- ·)) <;> cases zeroV v <;> simp
  rw [e, sumV_add, sumV_add, sumV_zero hn, ← sumV_neg hn m fun v => if posV v then f v else 0]
  omega

theorem qf_map_neg : ∀ (l v : List Int), qf l (v.map (- ·)) = qf l v
  | [], v => by simp [qf]
  | a :: r, [] => by simp [qf]
  | a :: r, x :: s => by
    simp only [List.map_cons, qf, qf_map_neg r s]
    have : a * -x * -x = a * x * x := by grind
    rw [this]

theorem qf_zeros : ∀ (l : List Int) (m : Nat), qf l (List.replicate m 0) = 0
  | [], m => by simp [qf]
  | a :: r, 0 => by simp [qf]
  | a :: r, m + 1 => by simp [List.replicate_succ, qf, qf_zeros r m]

/-- How many vectors have a value. -/
def many (n t : Int) (l : List Int) : Int := sumV n l.length fun v => if qf l v = t then 1 else 0

theorem ways_many (n t : Int) : ∀ (l : List Int) (s : Int), ways n t l s = sumV n l.length fun v => if s + qf l v = t then 1 else 0
  | [], s => by simp [ways, sumV, qf]
  | a :: r, s => by
    simp only [ways, List.length_cons, sumV]
    refine sumR_congr _ _ fun x _ _ => ?_
    rw [ways_many n t r (s + a * x * x)]
    refine sumV_congr _ fun v _ => ?_
    have : s + a * x * x + qf r v = s + qf (a :: r) (x :: v) := by simp only [qf]; omega
    rw [this]

theorem ways_eq (n t : Int) (l : List Int) : ways n t l 0 = many n t l := by
  rw [ways_many]
  exact sumV_congr _ fun v _ => by rw [Int.zero_add]

theorem many_nonneg (n t : Int) (l : List Int) : 0 ≤ many n t l := sumV_nonneg _ fun v => by split <;> omega
theorem many_wide {n : Int} (hn : 0 ≤ n) (t : Int) (l : List Int) : many n t l ≤ many (n + 1) t l := sumV_wide hn _ fun v => by split <;> omega
theorem many_even {n : Int} (hn : 0 ≤ n) {t : Int} (ht : t ≠ 0) (l : List Int) : many n t l % 2 = 0 := by
  unfold many
  rw [sumV_even hn _ (fun v => by rw [qf_map_neg]), qf_zeros, if_neg (Ne.symm ht)]
  omega
theorem many_zero {n : Int} (hn : 0 ≤ n) (l : List Int) {g : List Int → Int} (hg : ∀ v, v.length = l.length → g v ≤ if posV v then (if qf l v = 0 then 1 else 0) else 0) : 2 * sumV n l.length g + 1 ≤ many n 0 l := by
  unfold many
  rw [sumV_even hn _ (f := fun v => if qf l v = 0 then 1 else 0) (fun v => by rw [qf_map_neg]), qf_zeros, if_pos rfl]
  have := sumV_mono (n := n) l.length hg
  omega

theorem sumR_ex {g : Int → Int} : ∀ (c : Nat) (lo : Int), sumR lo c g ≠ 0 → ∃ x, g x ≠ 0
  | 0, lo, h => absurd rfl h
  | c + 1, lo, h => by
    simp only [sumR] at h
    by_cases h0 : g lo = 0
    · exact sumR_ex c (lo + 1) (by omega)
    · exact ⟨lo, h0⟩

theorem sumV_ex {n : Int} : ∀ (m : Nat) {f : List Int → Int}, sumV n m f ≠ 0 → ∃ v, v.length = m ∧ f v ≠ 0
  | 0, f, h => ⟨[], rfl, h⟩
  | m + 1, f, h => by
    obtain ⟨x, hx⟩ := sumR_ex _ _ h
    obtain ⟨v, hv, hf⟩ := sumV_ex m hx
    exact ⟨x :: v, by simp [hv], hf⟩

theorem many_ex {n t : Int} {l : List Int} (h : many n t l ≠ 0) : ∃ v, v.length = l.length ∧ qf l v = t := by
  obtain ⟨v, hv, hf⟩ := sumV_ex _ h
  refine ⟨v, hv, ?_⟩
  by_cases he : qf l v = t
  · exact he
  · rw [if_neg he] at hf; exact absurd rfl hf

end Go.Proofs.Ytmmadcccjicdcaa.E
