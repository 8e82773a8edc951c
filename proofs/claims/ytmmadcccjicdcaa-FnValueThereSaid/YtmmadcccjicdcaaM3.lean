/- Draws: pick (f_spec_l6Rd_pick) and the draw of a number (f_spec_DrawTwoEach). -/
import Derived.Test.YtmmadcccjicdcaaM2
namespace Go.Proofs.Ytmmadcccjicdcaa.E
set_option linter.unusedVariables false
set_option linter.unusedSimpArgs false

def Bytes (l : List Int) : Prop := l.length ≤ 2000 ∧ ∀ x ∈ l, 0 ≤ x ∧ x ≤ 255

theorem bytes_getD {l : List Int} (h : Bytes l) (i : Nat) : 0 ≤ l.getD i 0 ∧ l.getD i 0 ≤ 255 := by
  rcases Nat.lt_or_ge i l.length with hi | hi
  · exact h.2 _ (getD_mem hi)
  · rw [List.getD_eq_getElem?_getD, List.getElem?_eq_none hi]
    decide

theorem xor_small {x y : Int} (hx : 0 ≤ x ∧ x < 4294967296) (hy : 0 ≤ y ∧ y < 4294967296) :
    0 ≤ ((BitVec.ofInt (IntKind.bits .i64) x ^^^ BitVec.ofInt (IntKind.bits .i64) y).toNat : Int) ∧ ((BitVec.ofInt (IntKind.bits .i64) x ^^^ BitVec.ofInt (IntKind.bits .i64) y).toNat : Int) < 4294967296 := by
  have key : ∀ z : Int, 0 ≤ z ∧ z < 4294967296 → (BitVec.ofInt (IntKind.bits .i64) z).toNat < 2 ^ 32 := by
    intro z hz
    have e : IntKind.bits .i64 = 64 := rfl
    rw [e, BitVec.toNat_ofInt]
    have : (2 : Int) ^ 64 = 18446744073709551616 := by decide
    have : ((2 ^ 64 : Nat) : Int) = 18446744073709551616 := by decide
    omega
  have := Nat.xor_lt_two_pow (key x hx) (key y hy)
  rw [BitVec.toNat_xor]
  constructor
  · omega
  · have e : (2 : Nat) ^ 32 = 4294967296 := by decide
    omega

theorem tmod_small {x m : Int} (hx : 0 ≤ x) (hm : 0 < m) : 0 ≤ Int.tmod x m ∧ Int.tmod x m < m := ⟨Int.tmod_nonneg m hx, Int.tmod_lt_of_pos x hm⟩

theorem f_spec_l6Rd_pick_pick {R : Type} (k : Nat) {m : Int} (hm : 1 ≤ m) (hm' : m ≤ 1000000) {c : List Int} (hc : Bytes c) {p : Int} (hp : 0 ≤ p) (hp' : p ≤ 1000000) :
    ∃ r, 0 ≤ r ∧ r < m ∧ ∀ K : Int → List Int → Int → Option R, f_spec_l6Rd_pick k m c p K = K r c (p + 1) := by
  have w1 : IntKind.wrap .i64 (p + 1) = p + 1 := wrap_id (by omega) (by omega)
  have w2 : IntKind.wrap .i64 (p + 1 - 1) = p := by rw [wrap_id (by omega) (by omega)]; omega
  have hl := hc.1
  by_cases h0 : (c.length : Int) = 0
  · exact ⟨0, by omega, by omega, fun K => by simp only [f_spec_l6Rd_pick, show ¬ m < 1 by omega, h0, w1, decide_true, decide_false, cond_true, cond_false]⟩
  · have hlp : 0 < (c.length : Int) := by omega
    by_cases h1 : p < (c.length : Int)
    · have hb := bytes_getD hc (Int.toNat p)
      have w3 : IntKind.wrap .i64 (c.getD (Int.toNat p) 0) = c.getD (Int.toNat p) 0 := wrap_id (by omega) (by omega)
      refine ⟨Int.tmod (c.getD (Int.toNat p) 0) m, (tmod_small hb.1 (by omega)).1, (tmod_small hb.1 (by omega)).2, fun K => ?_⟩
      simp only [f_spec_l6Rd_pick, show ¬ m < 1 by omega, show ¬ m = 0 by omega, h0, h1, hp, w1, w2, w3, decide_true, decide_false, cond_true, cond_false, Bool.and_self, Bool.not_false]
    · have t1 := tmod_small hp hlp
      have w4 : IntKind.wrap .i64 (p * 7) = p * 7 := wrap_id (by omega) (by omega)
      have w5 : IntKind.wrap .i64 (p * 7 + 3) = p * 7 + 3 := wrap_id (by omega) (by omega)
      have t2 := tmod_small (x := p * 7 + 3) (by omega) hlp
      have hb1 := bytes_getD hc (Int.toNat (Int.tmod p (c.length : Int)))
      have hb2 := bytes_getD hc (Int.toNat (Int.tmod (p * 7 + 3) (c.length : Int)))
      have hd : Int.tdiv p (c.length : Int) = p / (c.length : Int) := Int.tdiv_eq_ediv_of_nonneg hp
      have hd0 : 0 ≤ p / (c.length : Int) := Int.ediv_nonneg hp (by omega)
      have hd1 : p / (c.length : Int) ≤ p := Int.ediv_le_self _ hp
      generalize hA : c.getD (Int.toNat (Int.tmod p (c.length : Int))) 0 = A at *
      generalize hB : c.getD (Int.toNat (Int.tmod (p * 7 + 3) (c.length : Int))) 0 = B at *
      generalize hD : Int.tdiv p (c.length : Int) = D at *
      have wA : IntKind.wrap .i64 A = A := wrap_id (by omega) (by omega)
      have wB : IntKind.wrap .i64 B = B := wrap_id (by omega) (by omega)
      have wA2 : IntKind.wrap .i64 (A * 131) = A * 131 := wrap_id (by omega) (by omega)
      have wB2 : IntKind.wrap .i64 (B * 1117) = B * 1117 := wrap_id (by omega) (by omega)
      have wS1 : IntKind.wrap .i64 (A * 131 + B * 1117) = A * 131 + B * 1117 := wrap_id (by omega) (by omega)
      have wP : IntKind.wrap .i64 (p * 29) = p * 29 := wrap_id (by omega) (by omega)
      have wS2 : IntKind.wrap .i64 (A * 131 + B * 1117 + p * 29) = A * 131 + B * 1117 + p * 29 := wrap_id (by omega) (by omega)
      have wD : IntKind.wrap .i64 D = D := wrap_id (by omega) (by omega)
      have wD2 : IntKind.wrap .i64 (D * 53) = D * 53 := wrap_id (by omega) (by omega)
      have wS3 : IntKind.wrap .i64 (A * 131 + B * 1117 + p * 29 + D * 53) = A * 131 + B * 1117 + p * 29 + D * 53 := wrap_id (by omega) (by omega)
      generalize hX : A * 131 + B * 1117 + p * 29 + D * 53 = X at *
      have hX0 : 0 ≤ X ∧ X < 4294967296 := by omega
      have hX64 : Int.tdiv X 64 = X / 64 := Int.tdiv_eq_ediv_of_nonneg hX0.1
      have wX : IntKind.wrap .i64 (Int.tdiv X 64) = X / 64 := by rw [hX64]; exact wrap_id (by omega) (by omega)
      have hx := xor_small hX0 (y := X / 64) (by omega)
      generalize hY : ((BitVec.ofInt (IntKind.bits .i64) X ^^^ BitVec.ofInt (IntKind.bits .i64) (X / 64)).toNat : Int) = Y at *
      have wY : IntKind.wrap .i64 Y = Y := wrap_id (by omega) (by omega)
      refine ⟨Int.tmod Y m, (tmod_small hx.1 (by omega)).1, (tmod_small hx.1 (by omega)).2, fun K => ?_⟩
      simp only [f_spec_l6Rd_pick, show ¬ m < 1 by omega, show ¬ m = 0 by omega, h0, h1, hp, w1, w2, w4, w5, t1, t2, hA, hB, hD, wA, wB, wA2, wB2, wS1, wP, wS2, wD, wD2, wS3, hX, wX, hY, wY, decide_true, decide_false, cond_true, cond_false, Bool.and_self, Bool.not_false]

theorem f_spec_l6Open_open {R : Type} (k : Nat) {xs : List Int} (h : ∀ x ∈ xs, 0 ≤ x ∧ x ≤ 255) : ∃ c, Bytes c ∧ ∀ K : List Int → Int → Option R, f_spec_l6Open k xs K = K c 0 := by
  by_cases hl : 2000 < (xs.length : Int)
  · refine ⟨(xs.take (Int.toNat 2000)).drop (Int.toNat 0), ⟨by simp only [show Int.toNat 2000 = 2000 from rfl, show Int.toNat 0 = 0 from rfl, List.drop_zero, List.length_take]; omega, fun x hx => h x (List.mem_of_mem_take (List.mem_of_mem_drop hx))⟩, fun K => ?_⟩
    have e0 : (decide ((0 : Nat) ≤ 0) && decide ((0 : Nat) ≤ 2000)) = true := by decide
    simp only [f_spec_l6Open, hl, e0, Bool.true_and, show (2000 : Int) ≤ (xs.length : Int) by omega, decide_true, cond_true, Bool.and_self]
  · exact ⟨xs, ⟨by omega, h⟩, fun K => by simp only [f_spec_l6Open, hl, decide_false, cond_false]⟩

theorem f_spec_DrawTwoEach_draw {R : Type} (k : Nat) {xs : List Int} (h : ∀ x ∈ xs, 0 ≤ x ∧ x ≤ 255) : ∃ n, ∀ K : Int → Option R, f_spec_DrawTwoEach k xs K = K n := by
  obtain ⟨c, hc, h1⟩ := f_spec_l6Open_open (R := R) k h
  obtain ⟨r1, a1, b1, e1⟩ := f_spec_l6Rd_pick_pick (R := R) k (m := 20) (by omega) (by omega) hc (p := 0) (by omega) (by omega)
  by_cases h0 : r1 = 0
  · obtain ⟨r2, a2, b2, e2⟩ := f_spec_l6Rd_pick_pick (R := R) k (m := 4) (by omega) (by omega) hc (p := 0 + 1) (by omega) (by omega)
    refine ⟨List.getD [-1, 0, 2000, 2001] (Int.toNat r2) 0, fun K => ?_⟩
    simp only [f_spec_DrawTwoEach, h1, f_spec_l92Sum, e1, h0, e2, decide_true, cond_true, a2, show r2 < (([-1, 0, 2000, 2001] : List Int).length : Int) from b2, Bool.and_self]
  · obtain ⟨r2, a2, b2, e2⟩ := f_spec_l6Rd_pick_pick (R := R) k (m := 100) (by omega) (by omega) hc (p := 0 + 1) (by omega) (by omega)
    obtain ⟨r3, a3, b3, e3⟩ := f_spec_l6Rd_pick_pick (R := R) k (m := 6) (by omega) (by omega) hc (p := 0 + 1 + 1) (by omega) (by omega)
    obtain ⟨r4, a4, b4, e4⟩ := f_spec_l6Rd_pick_pick (R := R) k (m := 80) (by omega) (by omega) hc (p := 0 + 1 + 1 + 1) (by omega) (by omega)
    refine ⟨IntKind.wrap .i64 (r2 + IntKind.wrap .i64 (r3 * r4)), fun K => ?_⟩
    simp only [f_spec_DrawTwoEach, h1, f_spec_l92Sum, e1, h0, e2, e3, e4, decide_false, cond_false]

theorem wf_byte {x : Int} (h : (Lit.int .u8 x).wf = true) : 0 ≤ x ∧ x ≤ 255 := by
  have e : (Lit.int .u8 x).wf = (decide (IntKind.min .u8 ≤ x) && decide (x ≤ IntKind.max .u8)) := rfl
  have e1 : IntKind.min .u8 = 0 := by decide
  have e2 : IntKind.max .u8 = 255 := by decide
  rw [e, e1, e2, Bool.and_eq_true, decide_eq_true_eq, decide_eq_true_eq] at h
  exact h

end Go.Proofs.Ytmmadcccjicdcaa.E
