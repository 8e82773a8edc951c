/- Draws of forms and numbers, and the plain law of FnValueMany. -/
import Derived.Test.YtmmadcccjicdcaaG4c
import Derived.Test.YtmmadcccjicdcaaC3
import Derived.Test.YtmmadcccjicdcaaM3
import Derived.Test.YtmmadcccjicdcaaE12
import Derived.KernelRfl
namespace Go.Proofs.Ytmmadcccjicdcaa.E
set_option linter.unusedVariables false
set_option linter.unusedSimpArgs false
set_option maxRecDepth 100000

theorem wrapF_eq {R : Type} {tys : List Ty} {otys : List OTy} {g : HT tys → HO otys → (List SV → List Ob → Option R) → Option R} {args : List SV} {objs : List Ob} {K : List SV → List Ob → Option R} {v : HT tys} {w : HO otys}
    (hv : patN tys args = some v) (hw : patO otys objs = some w) : wrapF tys otys g args objs K = g v w K := by
  unfold wrapF
  rw [hv, hw]
  rfl

abbrev R0 : Type := List SV × List Ob

/-- A list of small integers. -/
def Lt31 (l : List Int) : Prop := ∀ x ∈ l, -31 ≤ x ∧ x ≤ 31

theorem terms16 : ∀ r : Nat, -30 ≤ List.getD [1, 2, 3, 5, 6, 7, 1, 10, 12, 3, 15, 4, 21, 1, 30, 8] r (0 : Int) ∧ List.getD [1, 2, 3, 5, 6, 7, 1, 10, 12, 3, 15, 4, 21, 1, 30, 8] r (0 : Int) ≤ 30 := fun r => by
  rcases Nat.lt_or_ge r ([1, 2, 3, 5, 6, 7, 1, 10, 12, 3, 15, 4, 21, 1, 30, 8] : List Int).length with h | h
  · have key : ∀ x ∈ ([1, 2, 3, 5, 6, 7, 1, 10, 12, 3, 15, 4, 21, 1, 30, 8] : List Int), -30 ≤ x ∧ x ≤ 30 := by decide
    exact key _ (getD_mem h)
  · rw [List.getD_eq_getElem?_getD, List.getElem?_eq_none h]; decide

theorem form_loop {R : Type} (k : Nat) {c : List Int} (hc : Bytes c) {n : Int} : ∀ (j fuel : Nat) (i p : Int) (out : List Int), i + j = n → 0 ≤ i → n ≤ 100 → j < fuel → 0 ≤ p → p + 2 * j ≤ 1000 → out.length + j ≤ 1000 → Lt31 out →
    ∃ (p' : Int) (out' : List Int), 0 ≤ p' ∧ p' ≤ p + 2 * j ∧ out'.length = out.length + j ∧ Lt31 out' ∧ ∀ K0 : List Int → Int → List Int → Option R, l_spec_l91Form_4 k fuel n i c p out K0 = K0 c p' out' := by
  intro j
  induction j with
  | zero =>
    intro fuel i p out hi h0 hn hf hp hp' hl hs
    obtain ⟨g, rfl⟩ : ∃ g, fuel = g + 1 := ⟨fuel - 1, by omega⟩
    exact ⟨p, out, hp, by omega, by omega, hs, fun K0 => by simp only [l_spec_l91Form_4, show ¬ i < n by omega, decide_false, cond_false]⟩
  | succ j ih =>
    intro fuel i p out hi h0 hn hf hp hp' hl hs
    obtain ⟨g, rfl⟩ : ∃ g, fuel = g + 1 := ⟨fuel - 1, by omega⟩
    obtain ⟨r1, a1, b1, e1⟩ := f_spec_l6Rd_pick_pick (R := R) k (m := 16) (by omega) (by omega) hc (p := p) hp (by omega)
    obtain ⟨r2, a2, b2, e2⟩ := f_spec_l6Rd_pick_pick (R := R) k (m := 5) (by omega) (by omega) hc (p := p + 1) (by omega) (by omega)
    have ht := terms16 (Int.toNat r1)
    generalize hT : List.getD [1, 2, 3, 5, 6, 7, 1, 10, 12, 3, 15, 4, 21, 1, 30, 8] (Int.toNat r1) (0 : Int) = T at *
    have w1 : IntKind.wrap .i64 (i + 1) = i + 1 := wrap_id (by omega) (by omega)
    have w2 : IntKind.wrap .i64 (0 - T) = -T := by rw [wrap_id (by omega) (by omega)]; omega
    have hlen : (([1, 2, 3, 5, 6, 7, 1, 10, 12, 3, 15, 4, 21, 1, 30, 8] : List Nat).length : Int) = 16 := rfl
    have hb := ble_lim (show out.length + 1 ≤ 4294967296 by omega)
    by_cases h2 : r2 < 2
    · obtain ⟨p', out', q1, q2, q3, q4, q5⟩ := ih g (i + 1) (p + 1 + 1) (out ++ [-T]) (by omega) (by omega) hn (by omega) (by omega) (by omega) (by simp; omega) (fun x hx => by
        rcases List.mem_append.1 hx with hx | hx
        · exact hs x hx
        · rw [List.mem_singleton] at hx; omega)
      refine ⟨p', out', q1, by omega, by simp at q3; omega, q4, fun K0 => ?_⟩
      simp only [l_spec_l91Form_4, show i < n by omega, decide_true, cond_true, e1, hlen, a1, b1, Bool.and_self, e2, h2, hb, hT, w1, w2, q5]
    · obtain ⟨p', out', q1, q2, q3, q4, q5⟩ := ih g (i + 1) (p + 1 + 1) (out ++ [T]) (by omega) (by omega) hn (by omega) (by omega) (by omega) (by simp; omega) (fun x hx => by
        rcases List.mem_append.1 hx with hx | hx
        · exact hs x hx
        · rw [List.mem_singleton] at hx; omega)
      refine ⟨p', out', q1, by omega, by simp at q3; omega, q4, fun K0 => ?_⟩
      simp only [l_spec_l91Form_4, show i < n by omega, decide_true, decide_false, cond_true, cond_false, e1, hlen, a1, b1, Bool.and_self, e2, h2, hb, hT, w1, q5]

theorem l91Form_draw {R : Type} {k : Nat} (hk : 100 ≤ k) {c : List Int} (hc : Bytes c) {m p : Int} (hm : 1 ≤ m) (hm' : m ≤ 10) (hp : 0 ≤ p) (hp' : p ≤ 800) :
    ∃ (p' : Int) (l : List Int), 0 ≤ p' ∧ p' ≤ p + 30 ∧ l.length ≤ m.toNat ∧ Lt31 l ∧ ∀ K : List Int → Int → List Int → Option R, f_spec_l91Form k m c p K = K c p' l := by
  obtain ⟨r1, a1, b1, e1⟩ := f_spec_l6Rd_pick_pick (R := R) k (m := m) (by omega) (by omega) hc (p := p) hp (by omega)
  have w1 : IntKind.wrap .i64 (1 + r1) = 1 + r1 := wrap_id (by omega) (by omega)
  obtain ⟨q, out, q1, q2, q3, q4, q5⟩ := form_loop (R := R) k hc (n := 1 + r1) (1 + r1).toNat k 0 (p + 1) [] (by omega) (by omega) (by omega) (by omega) (by omega) (by omega) (by simp; omega) (fun x hx => by cases hx)
  simp only [List.length_nil, Nat.zero_add] at q3
  obtain ⟨r2, a2, b2, e2⟩ := f_spec_l6Rd_pick_pick (R := R) k (m := 40) (by omega) (by omega) hc (p := q) q1 (by omega)
  by_cases h0 : r2 = 0
  · obtain ⟨r3, a3, b3, e3⟩ := f_spec_l6Rd_pick_pick (R := R) k (m := 2) (by omega) (by omega) hc (p := q + 1) (by omega) (by omega)
    refine ⟨q + 1 + 1, List.set out 0 (List.getD [0, 31] (Int.toNat r3) 0), by omega, by omega, by rw [List.length_set]; omega, fun x hx => ?_, fun K => ?_⟩
    · rcases List.mem_or_eq_of_mem_set hx with h | h
      · exact q4 x h
      · have : r3 = 0 ∨ r3 = 1 := by omega
        subst h
        rcases this with h | h <;> subst h <;> decide
    · have hl2 : (([0, 31] : List Nat).length : Int) = 2 := rfl
      simp only [f_spec_l91Form, e1, w1, q5, e2, h0, decide_true, cond_true, e3, hl2, a3, b3, Bool.and_self, show (0 : Nat) ≤ 0 from Nat.le_refl 0, show (0 : Int) ≤ 0 by omega, show (0 : Int) < (out.length : Int) by omega, Int.toNat_zero]
  · by_cases h1 : r2 = 1
    · exact ⟨q + 1, [], by omega, by omega, by simp, (fun x hx => by cases hx), fun K => by simp only [f_spec_l91Form, e1, w1, q5, e2, h1, show ¬ (1 : Int) = 0 by omega, decide_true, decide_false, cond_true, cond_false]⟩
    · exact ⟨q + 1, out, by omega, by omega, by omega, q4, fun K => by simp only [f_spec_l91Form, e1, w1, q5, e2, h0, h1, decide_false, cond_false]⟩

theorem div19 {r : Int} (h0 : 0 ≤ r) (h : r < 20) : IntKind.wrap .i64 (Int.tdiv r 19) = r / 19 := by
  rw [Int.tdiv_eq_ediv_of_nonneg h0]; exact wrap_id (by omega) (by omega)

theorem DrawValueMany_draw {R : Type} {k : Nat} (hk : 100 ≤ k) {xs : List Int} (h : ∀ x ∈ xs, 0 ≤ x ∧ x ≤ 255) :
    ∃ (l : List Int) (t n : Int), l.length ≤ 3 ∧ Lt31 l ∧ -100 ≤ t ∧ t ≤ 2000 ∧ -10 ≤ n ∧ n ≤ 10 ∧ ∀ K : List Int → Int → Int → Option R, f_spec_DrawValueMany k xs K = K l t n := by
  obtain ⟨c, hc, h0⟩ := f_spec_l6Open_open (R := R) k h
  obtain ⟨p1, l, a1, b1, c1, d1, e1⟩ := l91Form_draw (R := R) hk hc (m := 3) (p := 0) (by omega) (by omega) (by omega) (by omega)
  obtain ⟨r2, a2, b2, e2⟩ := f_spec_l6Rd_pick_pick (R := R) k (m := 30) (by omega) (by omega) hc (p := p1) (by omega) (by omega)
  obtain ⟨r3, a3, b3, e3⟩ := f_spec_l6Rd_pick_pick (R := R) k (m := 3) (by omega) (by omega) hc (p := p1 + 1) (by omega) (by omega)
  obtain ⟨r4, a4, b4, e4⟩ := f_spec_l6Rd_pick_pick (R := R) k (m := 20) (by omega) (by omega) hc (p := p1 + 1 + 1) (by omega) (by omega)
  obtain ⟨r5, a5, b5, e5⟩ := f_spec_l6Rd_pick_pick (R := R) k (m := 4) (by omega) (by omega) hc (p := p1 + 1 + 1 + 1) (by omega) (by omega)
  obtain ⟨r6, a6, b6, e6⟩ := f_spec_l6Rd_pick_pick (R := R) k (m := 20) (by omega) (by omega) hc (p := p1 + 1 + 1 + 1 + 1) (by omega) (by omega)
  have w1 : IntKind.wrap .i64 (r3 * 5) = r3 * 5 := wrap_id (by omega) (by omega)
  have w2 : IntKind.wrap .i64 (r2 - r3 * 5) = r2 - r3 * 5 := wrap_id (by omega) (by omega)
  have w3 : IntKind.wrap .i64 (r4 / 19 * 990) = r4 / 19 * 990 := wrap_id (by omega) (by omega)
  have w4 : IntKind.wrap .i64 (r2 - r3 * 5 + r4 / 19 * 990) = r2 - r3 * 5 + r4 / 19 * 990 := wrap_id (by omega) (by omega)
  have w5 : IntKind.wrap .i64 (1 + r5) = 1 + r5 := wrap_id (by omega) (by omega)
  have w6 : IntKind.wrap .i64 (r6 / 19 * 4) = r6 / 19 * 4 := wrap_id (by omega) (by omega)
  have w7 : IntKind.wrap .i64 (1 + r5 - r6 / 19 * 4) = 1 + r5 - r6 / 19 * 4 := wrap_id (by omega) (by omega)
  refine ⟨l, r2 - r3 * 5 + r4 / 19 * 990, 1 + r5 - r6 / 19 * 4, by omega, d1, by omega, by omega, by omega, by omega, fun K => ?_⟩
  simp only [f_spec_DrawValueMany, h0, e1, e2, e3, e4, e5, e6, div19 a4 b4, div19 a6 b6, w1, w2, w3, w4, w5, w6, w7]

theorem Lt31.sz {l : List Int} (h : Lt31 l) : Sz l := fun x hx => by have := h x hx; omega

theorem many_bound {n t : Int} (hn : n ≤ 7) {l : List Int} (hl : l.length ≤ 4) : many n t l ≤ 160000 := by
  have h1 := (sumV_bound (n := n) hn l.length (f := fun v => if qf l v = t then 1 else 0) fun v => by split <;> omega).2
  have h2 : (20 : Int) ^ l.length ≤ 160000 := by
    have : l.length = 0 ∨ l.length = 1 ∨ l.length = 2 ∨ l.length = 3 ∨ l.length = 4 := by omega
    rcases this with h | h | h | h | h <;> rw [h] <;> decide
  exact Int.le_trans h1 h2

theorem laws_FnValueMany_true {k : Nat} (hk : 60000 ≤ k) (xs : List Int) (h : ∀ x ∈ xs, (Lit.int .u8 x).wf = true) : f_laws_FnValueMany k xs (fun b => some ([.bool b], [])) = (some ([.bool true], []) : Option R0) := by
  obtain ⟨l, t, n, h3, hlt, t1, t2, n1, n2, hdraw⟩ := DrawValueMany_draw (R := R0) (k := k) (by omega) fun x hx => wf_byte (h x hx)
  by_cases hl : 1048576 < (xs.length : Int)
  · simp only [f_laws_FnValueMany, hl, decide_true, cond_true]
  have w1 : IntKind.wrap .i64 (n + 1) = n + 1 := wrap_id (by omega) (by omega)
  simp only [f_laws_FnValueMany, hl, decide_false, cond_false, hdraw, f_impl_ValueMany_eq (show 1000 ≤ k by omega) hlt.sz (show l.length < 1000 by omega), f_spec_ValueMany_eq (show 1000 ≤ k by omega) (show l.length < 1000 by omega), decide_true, Bool.not_true, w1]
  by_cases hv : validL l = true ∧ -1000 ≤ t ∧ t ≤ 1000 ∧ 1 ≤ n ∧ n ≤ 6
  · have hV := valid_iff.1 hv.1
    have e1 : manyL l t n = many n t l := if_pos hv
    have h0 := many_nonneg n t l
    have hb := many_bound (n := n) (t := t) (by omega) (l := l) (by omega)
    rw [e1]
    simp only [show ¬ many n t l < 0 by omega, decide_false, cond_false]
    have hnext : n = 6 ∨ many n t l ≤ manyL l t (n + 1) := by
      by_cases h6 : n = 6
      · exact .inl h6
      · right
        have : manyL l t (n + 1) = many (n + 1) t l := if_pos ⟨hv.1, hv.2.1, hv.2.2.1, by omega, by omega⟩
        rw [this]; exact many_wide (by omega) t l
    by_cases ht : t = 0
    · subst ht
      have hz := many_zero (n := n) (by omega) l (g := fun w => zp l w) fun v _ => zp_le l v
      have hz0 := (sumV_bound (n := n) (by omega) l.length (f := fun w => zp l w) fun v => zp_bound l v).1
      have hz1 := (sumV_bound (n := n) (by omega) l.length (f := fun w => zp l w) fun v => zp_bound l v).2
      simp only [decide_true, cond_true, f_impl_ZeroMany_eq (show 1000 ≤ k by omega) hV (show 1 ≤ n by omega) (show n ≤ 6 by omega)]
      generalize sumV n l.length (fun w => zp l w) = Z at *
      have w2 : IntKind.wrap .i64 (2 * Z) = 2 * Z := wrap_id (by omega) (by omega)
      have w3 : IntKind.wrap .i64 (2 * Z + 1) = 2 * Z + 1 := wrap_id (by omega) (by omega)
      rw [w2, w3]
      rcases hnext with h6 | h6
      · simp only [h6, decide_true, cond_true] at hz ⊢
        simp only [hz, decide_true]
      · simp only [h6, hz, decide_true, cond_true]
        cases decide (n = 6) <;> rfl
    · have hev : Int.tmod (many n t l) 2 = 0 := by rw [Int.tmod_eq_emod_of_nonneg h0]; exact many_even (by omega) ht l
      simp only [ht, hev, decide_false, decide_true, cond_false, cond_true]
      have hrest : ∀ X : Option R0, X = (cond (decide (many n t l = 0)) (some ([SV.bool true], [])) (f_laws_sizeOf k t fun r9 => cond (decide (30 < r9)) (some ([SV.bool true], [])) (f_impl_ValueEverywhere k l t fun r10 => some ([SV.bool r10], [])))) → X = some ([SV.bool true], []) := by
        intro X hX
        rw [hX]
        by_cases hm : many n t l = 0
        · simp only [hm, decide_true, cond_true]
        · obtain ⟨v, hvl, hvq⟩ := many_ex hm
          have w4 : IntKind.wrap .i64 (0 - t) = -t := by rw [wrap_id (by omega) (by omega)]; omega
          simp only [hm, decide_false, cond_false, f_laws_sizeOf, w4]
          by_cases hneg : t < -t
          · simp only [hneg, decide_true, cond_true]
            by_cases h30 : 30 < -t
            · simp only [h30, decide_true, cond_true]
            · have ht' : t ≠ 0 ∧ -30 ≤ t ∧ t ≤ 30 := ⟨ht, by omega, by omega⟩
              simp only [h30, decide_false, cond_false, f_impl_ValueEverywhere_eq hk hV ht', evw_of_value hV h3 ht' hvl (d := 1) (by omega) (by rw [hvq]; omega)]
          · simp only [hneg, decide_false, cond_false]
            by_cases h30 : 30 < t
            · simp only [h30, decide_true, cond_true]
            · have ht' : t ≠ 0 ∧ -30 ≤ t ∧ t ≤ 30 := ⟨ht, by omega, by omega⟩
              simp only [h30, decide_false, cond_false, f_impl_ValueEverywhere_eq hk hV ht', evw_of_value hV h3 ht' hvl (d := 1) (by omega) (by rw [hvq]; omega)]
      rcases hnext with h6 | h6
      · rw [show decide (n = 6) = true from decide_eq_true h6]
        exact hrest _ rfl
      · rw [show decide (many n t l ≤ manyL l t (n + 1)) = true from decide_eq_true h6]
        cases decide (n = 6)
        · exact hrest _ rfl
        · exact hrest _ rfl
  · have e1 : manyL l t n = -1 := if_neg hv
    rw [e1]
    simp only [show (-1 : Int) < 0 by omega, decide_true, cond_true]

theorem pureFnValueMany (xs : List Int) (h : ∀ x ∈ xs, (Lit.int .u8 x).wf = true) : ∃ F : CF R0, Good tyE.P 4 false F ∧ F [.sl true 5 (.int .u8) xs] [] (fun r o => some (r, o)) = some ([.bool true], []) := by
  refine ⟨F_laws_FnValueMany 60000, good_laws_FnValueMany 60000, ?_⟩
  have e : F_laws_FnValueMany (R := R0) 60000 [.sl true 5 (.int .u8) xs] [] (fun r o => some (r, o)) = g_laws_FnValueMany 60000 (xs, ()) () (fun r o => some (r, o)) := wrapF_eq (by kernel_rfl) (by kernel_rfl)
  rw [e]
  exact laws_FnValueMany_true (Nat.le_refl 60000) xs h

end Go.Proofs.Ytmmadcccjicdcaa.E
