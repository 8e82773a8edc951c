/- The plain law of FnTwoEach. -/
import Derived.Test.YtmmadcccjicdcaaM3
import Derived.Test.YtmmadcccjicdcaaE12
import Derived.KernelRfl
namespace Go.Proofs.Ytmmadcccjicdcaa.E
set_option linter.unusedVariables false
set_option linter.unusedSimpArgs false
set_option maxRecDepth 100000

theorem wrapF_eq {R : Type} {tys : List Ty} {otys : List OTy} {g : HT tys → HO otys → (List SV → List Ob → Option R) → Option R} {args : List SV} {objs : List Ob} {K : List SV → List Ob → Option R} {v : HT tys} {w : HO otys}
    (hv : patN tys args = some v) (hw : patO otys objs = some w) : wrapF tys otys g args objs K = g v w K := by
  unfold wrapF
  rw [hv, hw]
  rfl

abbrev R0 : Type := List SV × List Ob

theorem sumR_zero {g : Int → Int} : ∀ (c : Nat) (lo : Int), (∀ x, lo ≤ x → x < lo + c → g x = 0) → sumR lo c g = 0
  | 0, lo, h => rfl
  | c + 1, lo, h => by
    have h1 := h lo (by omega) (by omega)
    have h2 := sumR_zero c (lo + 1) fun x hx hx' => h x (by omega) (by omega)
    simp only [sumR, h1, h2, Int.add_zero]

theorem ways_far {n : Int} (h : 72 < n) : ways 6 n [1, 1] 0 = 0 := by
  have sq : ∀ x : Int, -6 ≤ x → x < -6 + 13 → x * x ≤ 36 := fun x h1 h2 => by
    have := mul_bound (a := x) (x := x) (A := 6) (X := 6) (by omega) (by omega)
    omega
  refine sumR_zero 13 (-6) fun x hx hx' => sumR_zero 13 (-6) fun y hy hy' => ?_
  have h1 := sq x hx hx'
  have h2 := sq y hy hy'
  have e1 : (1 : Int) * x * x = x * x := by rw [Int.one_mul]
  have e2 : (1 : Int) * y * y = y * y := by rw [Int.one_mul]
  simp only [ways, e1, e2]
  rw [if_neg (by omega)]

theorem f32_ways {R : Type} {k : Nat} (hk : 20 ≤ k) {fm : List Int} {t n : Int} (hn0 : 0 ≤ n) (hn : n ≤ 7) (hm : fm.length ≤ 4) (hfs : Sized 30000 fm) (K : List Int → Int → Int → Option R) :
    f32 k (fm.length : Int) n fm t 0 K = K fm t (ways n t fm 0) := by
  have hp : (20 : Int) ^ fm.length ≤ 160000 := by
    have : fm.length = 0 ∨ fm.length = 1 ∨ fm.length = 2 ∨ fm.length = 3 ∨ fm.length = 4 := by omega
    rcases this with h | h | h | h | h <;> rw [h] <;> decide
  obtain ⟨v', _, _, _, h⟩ := f68_ways (R := R) hk (t := t) hn0 hn hm hfs fm.length 0 k (List.replicate fm.length 0) 0 (by omega) (by omega) (by simp) (fun x hx => by rw [List.mem_replicate] at hx; omega) (by omega) (by omega)
  have e0 : (decide ((0 : Int) ≤ (fm.length : Int)) && decide ((fm.length : Int) ≤ (fm.length : Int)) && decide ((fm.length : Int) ≤ 4294967296)) = true := by
    rw [Bool.and_eq_true, Bool.and_eq_true, decide_eq_true_eq, decide_eq_true_eq, decide_eq_true_eq]; omega
  simp only [f32, e0, cond_true, Int.toNat_natCast]
  have h' := h (fun r1 r2 r3 r4 r5 r6 => K r3 r4 r5)
  simp only [List.drop_zero, List.take_zero, dot, Int.zero_add] at h'
  exact h'

theorem f11_ways {R : Type} {k : Nat} (hk : 20 ≤ k) {fm : List Int} {t : Int} (hm : fm.length ≤ 4) (hfs : Sized 30000 fm) (hval : ∀ K : Bool → Option R, f31 k fm K = K true) (K : Int → Option R) :
    f11 k fm t 6 K = cond (decide (t < -1000)) (K (-1)) (cond (decide (1000 < t)) (K (-1)) (K (ways 6 t fm 0))) := by
  simp only [f11, hval, show ¬ (6 : Int) < 1 by omega, show ¬ (6 : Int) < 6 by omega, decide_false, cond_false, Bool.not_true, f32_ways hk (show (0 : Int) ≤ 6 by omega) (show (6 : Int) ≤ 7 by omega) hm hfs]

def okR : Option R0 → Bool
  | some ([.bool b], []) => b
  | _ => false

noncomputable def near (k : Nat) (n : Int) : Bool := okR (f28 k n fun s => some ([.bool (decide (ways 6 n [1, 1] 0 ≤ s) && (decide (49 ≤ n) || decide (ways 6 n [1, 1] 0 = s)))], []))
noncomputable def nears (k : Nat) : Nat → Bool
  | 0 => true
  | m + 1 => near k (Int.ofNat m) && nears k m

theorem nears_all : nears 60 73 = true := by kernel_rfl

theorem nears_get {k : Nat} : ∀ (m : Nat), nears k m = true → ∀ i, i < m → near k (Int.ofNat i) = true
  | 0, _, i, h => by omega
  | m + 1, h, i, hi => by
    rw [nears, Bool.and_eq_true] at h
    rcases (show i = m ∨ i < m by omega) with rfl | h'
    · exact h.1
    · exact nears_get m h.2 i h'

theorem f3_true {k : Nat} (hk : 60 ≤ k) (hnears : nears k 73 = true) (hval : ∀ K : Bool → Option R0, f31 k [1, 1] K = K true) (xs : List Int) (h : ∀ x ∈ xs, (Lit.int .u8 x).wf = true) : f3 k xs (fun b => some ([.bool b], [])) = (some ([.bool true], []) : Option R0) := by
  obtain ⟨n, hdraw⟩ := f8_draw (R := R0) k fun x hx => wf_byte (h x hx)
  by_cases hl : 1048576 < (xs.length : Int)
  · simp only [f3, hl, decide_true, cond_true]
  simp only [f3, hl, decide_false, cond_false, hdraw]
  by_cases h0 : n < 0
  · simp only [f9, f10, f29, f38, h0, show ¬ (0 : Int) ≤ n by omega, decide_true, decide_false, cond_true, cond_false, Bool.not_false, Bool.not_true, show (-1 : Int) < 0 by omega]
  by_cases h1 : 2000 < n
  · simp only [f9, f10, f29, f38, h0, h1, show (0 : Int) ≤ n by omega, show ¬ n ≤ 2000 by omega, decide_true, decide_false, cond_true, cond_false, Bool.not_false, Bool.not_true, show (-1 : Int) < 0 by omega]
  obtain ⟨S, s0, s1, s2, hS⟩ := two_ways (R := R0) (k := k) (by omega) (n := n) (by omega) (by omega)
  have hS1 := fun K => (hS K).1
  have hS2 := fun K => (hS K).2
  simp only [f9, f10, f29, f38, h0, h1, hS1, hS2, show (0 : Int) ≤ n by omega, show n ≤ 2000 by omega, show ¬ S < 0 by omega, decide_true, decide_false, cond_true, cond_false, Bool.not_false, Bool.not_true, f11_ways (show 20 ≤ k by omega) (fm := [1, 1]) (by simp) (fun x hx => by simp at hx; omega) hval]
  -- the count of small vectors
  have hfin : ∀ m : Int, (m = -1 ∨ (m ≤ S ∧ (49 ≤ n ∨ m = S))) → ((cond (decide (m = -1)) (some ([SV.bool true], [])) (cond (decide (m ≤ S)) (cond (decide (49 ≤ n)) (some ([SV.bool true], [])) (some ([SV.bool (decide (m = S))], []))) (some ([SV.bool false], [])))) : Option R0) = some ([SV.bool true], []) := by
    intro m hm
    by_cases a : m = -1
    · simp only [a, decide_true, cond_true]
    · rcases hm with hm | ⟨b, c⟩
      · exact absurd hm a
      · by_cases d : 49 ≤ n
        · simp only [a, b, d, decide_true, decide_false, cond_true, cond_false]
        · have c' : m = S := c.resolve_left d
          simp only [a, b, d, c', decide_true, decide_false, cond_true, cond_false, Int.le_refl]
          cases decide (S = -1) <;> rfl
  have hcase : ∀ m : Int, (m = -1 ∨ (m ≤ S ∧ (49 ≤ n ∨ m = S))) → ∀ X : Option R0, X = (cond (decide (n = 0)) (cond (decide (S = 1)) (cond (decide (m = -1)) (some ([SV.bool true], [])) (cond (decide (m ≤ S)) (cond (decide (49 ≤ n)) (some ([SV.bool true], [])) (some ([SV.bool (decide (m = S))], []))) (some ([SV.bool false], [])))) (cond (decide (0 < n)) (cond (decide (Int.tmod S 4 = 0)) (cond (decide (m = -1)) (some ([SV.bool true], [])) (cond (decide (m ≤ S)) (cond (decide (49 ≤ n)) (some ([SV.bool true], [])) (some ([SV.bool (decide (m = S))], []))) (some ([SV.bool false], [])))) (some ([SV.bool false], []))) (some ([SV.bool false], [])))) (cond (decide (0 < n)) (cond (decide (Int.tmod S 4 = 0)) (cond (decide (m = -1)) (some ([SV.bool true], [])) (cond (decide (m ≤ S)) (cond (decide (49 ≤ n)) (some ([SV.bool true], [])) (some ([SV.bool (decide (m = S))], []))) (some ([SV.bool false], [])))) (some ([SV.bool false], []))) (some ([SV.bool false], [])))) → X = some ([SV.bool true], []) := by
    intro m hm X hX
    rw [hX]
    rcases (show n = 0 ∨ 0 < n by omega) with hz | hz
    · rw [show decide (n = 0) = true from decide_eq_true hz, show decide (S = 1) = true from decide_eq_true (s1 hz)]
      exact hfin m hm
    · rw [show decide (n = 0) = false from decide_eq_false (by omega), show decide (0 < n) = true from decide_eq_true hz, show decide (Int.tmod S 4 = 0) = true from decide_eq_true (s2 hz)]
      exact hfin m hm
  by_cases hb : 1000 < n
  · refine hcase (-1) (.inl rfl) _ ?_
    simp only [hb, show ¬ n < -1000 by omega, decide_true, decide_false, cond_true, cond_false]
  · refine hcase (ways 6 n [1, 1] 0) (.inr ?_) _ ?_
    · by_cases hfar : 72 < n
      · rw [ways_far hfar]
        exact ⟨s0, .inl (by omega)⟩
      · have hnear := nears_get 73 hnears n.toNat (by omega)
        rw [show Int.ofNat n.toNat = n by simp; omega] at hnear
        unfold near at hnear
        rw [hS1] at hnear
        simp only [okR, Bool.and_eq_true, Bool.or_eq_true, decide_eq_true_eq] at hnear
        exact hnear
    · simp only [hb, show ¬ n < -1000 by omega, decide_false, cond_false]

theorem valid_two : ∀ K : Bool → Option R0, f31 60 [1, 1] K = K true := fun K => by kernel_rfl

theorem pureFnTwoEach (xs : List Int) (h : ∀ x ∈ xs, (Lit.int .u8 x).wf = true) : ∃ F : CF R0, Good tyE.P 3 false F ∧ F [.sl true 5 (.int .u8) xs] [] (fun r o => some (r, o)) = some ([.bool true], []) := by
  refine ⟨F3 60, good3 60, ?_⟩
  have e : F3 (R := R0) 60 [.sl true 5 (.int .u8) xs] [] (fun r o => some (r, o)) = g3 60 (xs, ()) () (fun r o => some (r, o)) := wrapF_eq (by kernel_rfl) (by kernel_rfl)
  rw [e]
  exact f3_true (Nat.le_refl 60) nears_all valid_two xs h

end Go.Proofs.Ytmmadcccjicdcaa.E
