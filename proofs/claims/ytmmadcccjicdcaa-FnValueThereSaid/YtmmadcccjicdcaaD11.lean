/- Values found: the plain laws, but for the draw. -/
import Derived.Test.YtmmadcccjicdcaaG7
import Derived.Test.YtmmadcccjicdcaaC4
import Derived.Test.YtmmadcccjicdcaaD9
import Derived.Test.YtmmadcccjicdcaaD10
namespace Go.Proofs.Ytmmadcccjicdcaa.E
set_option linter.unusedVariables false
set_option linter.unusedSimpArgs false
set_option maxRecDepth 100000

/- arithmetic that goes round -/
theorem wrap_mod (n : Int) : IntKind.wrap .i64 n % 18446744073709551616 = n % 18446744073709551616 := by
  have e1 : (2 ^ IntKind.i64.bits : Int) = 18446744073709551616 := by decide
  simp only [IntKind.wrap, e1]
  split <;> omega

theorem wrap_congr {a b : Int} (h : a % 18446744073709551616 = b % 18446744073709551616) : IntKind.wrap .i64 a = IntKind.wrap .i64 b := by
  have e1 : (2 ^ IntKind.i64.bits : Int) = 18446744073709551616 := by decide
  simp only [IntKind.wrap, e1, h]

theorem wrap_add (a b : Int) : IntKind.wrap .i64 (IntKind.wrap .i64 a + IntKind.wrap .i64 b) = IntKind.wrap .i64 (a + b) := by
  apply wrap_congr
  rw [Int.add_emod, wrap_mod, wrap_mod, ← Int.add_emod]

theorem wrap_mul (a b : Int) : IntKind.wrap .i64 (IntKind.wrap .i64 a * b) = IntKind.wrap .i64 (a * b) := by
  apply wrap_congr
  rw [Int.mul_emod, wrap_mod, ← Int.mul_emod]

theorem wrap_wrap (a : Int) : IntKind.wrap .i64 (IntKind.wrap .i64 a) = IntKind.wrap .i64 a := wrap_congr (wrap_mod a)

theorem same_loop {R : Type} (k : Nat) {l : List Int} (hl : l.length < 1000000) : ∀ (j i fuel : Nat), i + j = l.length → j < fuel → ∀ (K0 : Bool → Option R) (K1 : Option R), l_laws_sameInts_4 k fuel l l (i : Int) K0 K1 = K1
  | 0, i, fuel, hi, hf, K0, K1 => by
    obtain ⟨f, rfl⟩ : ∃ f, fuel = f + 1 := ⟨fuel - 1, by omega⟩
    simp only [l_laws_sameInts_4, show ¬ (i : Int) < (l.length : Int) by omega, decide_false, cond_false]
  | j + 1, i, fuel, hi, hf, K0, K1 => by
    obtain ⟨f, rfl⟩ : ∃ f, fuel = f + 1 := ⟨fuel - 1, by omega⟩
    have ih := same_loop (R := R) k hl j (i + 1) f (by omega) (by omega) K0 K1
    simp only [l_laws_sameInts_4, show (i : Int) < (l.length : Int) by omega, show (0 : Int) ≤ (i : Int) by omega, decide_true, cond_true, Bool.and_self, Bool.not_true, cond_false, add_one (show i < 4611686018427387904 by omega), ih]

theorem f_laws_sameInts_eq {R : Type} {k : Nat} {l : List Int} (hk : l.length < k) (hl : l.length < 1000000) (K : Bool → Option R) : f_laws_sameInts k l l K = K true := by
  have := same_loop (R := R) k hl l.length 0 k (by omega) hk (fun y4 => K y4) (K true)
  simp only [f_laws_sameInts, decide_true, Bool.not_true, cond_false]
  exact this

theorem sum_loop {R : Type} (k : Nat) {l w : List Int} {t d : Int} (hw : w.length = l.length) (hl : l.length < 1000) : ∀ (j i fuel : Nat) (S : Int), i + j = l.length → j < fuel → ∀ K0 : List Int → Int → Int → Int → Option R,
    l_laws_FnValueFind_10 k fuel l t w d (IntKind.wrap .i64 S) (i : Int) K0 = K0 l t d (IntKind.wrap .i64 (S + qf (l.drop i) (w.drop i)))
  | 0, i, fuel, S, hi, hf, K0 => by
    obtain ⟨f, rfl⟩ : ∃ f, fuel = f + 1 := ⟨fuel - 1, by omega⟩
    have : l.drop i = [] := List.drop_eq_nil_of_le (by omega)
    have h0 : S + qf (l.drop i) (w.drop i) = S := by rw [this]; simp [qf]
    simp only [l_laws_FnValueFind_10, show ¬ (i : Int) < (l.length : Int) by omega, decide_false, cond_false, h0]
  | j + 1, i, fuel, S, hi, hf, K0 => by
    obtain ⟨f, rfl⟩ : ∃ f, fuel = f + 1 := ⟨fuel - 1, by omega⟩
    have e1 := getD_drop (show i < l.length by omega)
    have e2 := getD_drop (show i < w.length by omega)
    have ih := sum_loop (R := R) k (t := t) (d := d) hw hl j (i + 1) f (S + l.getD i 0 * w.getD i 0 * w.getD i 0) (by omega) (by omega) K0
    have hq : S + qf (l.drop i) (w.drop i) = S + l.getD i 0 * w.getD i 0 * w.getD i 0 + qf (l.drop (i + 1)) (w.drop (i + 1)) := by
      rw [e1, e2]
      simp only [qf]
      omega
    rw [hq, ← ih]
    simp only [l_laws_FnValueFind_10, show (i : Int) < (l.length : Int) by omega, show (i : Int) < (w.length : Int) by omega, show (0 : Int) ≤ (i : Int) by omega, decide_true, cond_true, Bool.and_self, Int.toNat_natCast, add_one (show i < 4611686018427387904 by omega), wrap_mul, wrap_add]

/- two terms -/
def plcs : List Nat := [2, 3, 5, 7, 11, 13, 17, 19, 23, 29]
def two (m n : Nat) : Bool :=
  let a := (m : Int) - 30
  let b := (n : Int) - 30
  decide (a = 0) || (decide (b = 0) || (decide (cor a = -cor b) || (!van [a, b] 0 || plcs.any fun p => (Nat.beq p 2 || decide ((a * b) % p = 0)) && !van [a, b] p)))

theorem two_all : ((List.range 61).all fun m => (List.range 61).all fun n => two m n) = true := by decide +kernel

theorem plcs_pr : ∀ p ∈ plcs, prB p = true ∧ p < 100 := by decide

def Vev2 (a b : Int) : Prop := ∀ p, (p = 0 ∨ p = 2 ∨ (Pr p ∧ p ∣ a * b)) → van [a, b] p = true

theorem legendre2 {a b : Int} (ha : a ≠ 0 ∧ a.natAbs ≤ 30) (hb : b ≠ 0 ∧ b.natAbs ≤ 30) (hv : Vev2 a b) : cor a = -cor b := by
  have h := two_all
  rw [List.all_eq_true] at h
  have h := h (a + 30).toNat (List.mem_range.2 (by omega))
  rw [List.all_eq_true] at h
  have h := h (b + 30).toNat (List.mem_range.2 (by omega))
  unfold two at h
  rw [show (((a + 30).toNat : Nat) : Int) - 30 = a by omega, show (((b + 30).toNat : Nat) : Int) - 30 = b by omega] at h
  simp only [Bool.or_eq_true, decide_eq_true_eq, Bool.not_eq_true', List.any_eq_true, Bool.and_eq_true] at h
  rcases h with h | h | h | h | ⟨p, hp, hd, hf⟩
  · exact absurd h ha.1
  · exact absurd h hb.1
  · exact h
  · rw [hv 0 (.inl rfl)] at h; cases h
  · exfalso
    obtain ⟨h1, h2⟩ := plcs_pr p hp
    have : van [a, b] (p : Int) = true := by
      rcases hd with h3 | h3
      · have := Nat.eq_of_beq_eq_true h3
        subst this
        exact hv 2 (.inr (.inl rfl))
      · exact hv p (.inr (.inr ⟨prB_pr h1 h2, Int.dvd_of_emod_eq_zero h3⟩))
    rw [this] at hf
    cases hf

theorem evw_van {l : List Int} {t : Int} (h : Valid l) (h3 : l.length ≤ 3) (ht : t ≠ 0 ∧ -30 ≤ t ∧ t ≤ 30) (he : evw l t = true) {p : Int} (hp : p = 0 ∨ p = 2 ∨ ∃ n ∈ l ++ [t], Pr p ∧ p ∣ n) : van (l ++ [-t]) p = true := by
  have hw := h.with ht
  unfold evw badV at he
  rw [List.isEmpty_iff, List.filter_eq_nil_iff] at he
  have hm := (placesL_mem (x := p) (l := l ++ [t]) fun x hx => ⟨(hw x hx).1, by have := (hw x hx).2; omega⟩).2 hp
  have := he p hm
  unfold rpr at this
  rw [if_neg (by omega)] at this
  cases hx : van (l ++ [-t]) p with
  | true => rfl
  | false => rw [hx] at this; exact absurd rfl this

/-- What ValueFind says, of all that is drawn. -/
theorem vf_all {R : Type} {k : Nat} (hk : 60000 ≤ k) {l : List Int} {t : Int} (hlt : Lt31 l) (hl : l.length ≤ 4) :
    ∃ o : Option (List Int × Int), (∀ w d, o = some (w, d) → Valid l ∧ l.length ≤ 3 ∧ (t ≠ 0 ∧ -30 ≤ t ∧ t ≤ 30) ∧ w.length = l.length ∧ qf l w = t * d * d ∧ 1 ≤ d) ∧ (o = none → l.length ≤ 2 → Valid l → (t ≠ 0 ∧ -30 ≤ t ∧ t ≤ 30) → evw l t = false) ∧
      (∀ K : List Int → Int → Bool → Option R, f_impl_ValueFind k l t K = ansV o K) ∧ (∀ K : List Int → Int → Bool → Option R, f_spec_ValueFind k l t K = ansV o K) := by
  have hvv : ∀ K : Bool → Option R, f_impl_FormValid k l K = K (validL l) := fun K => f_impl_FormValid_eq hlt.sz (by omega) (by omega) K
  have hsv : ∀ K : Bool → Option R, f_spec_FormValid k l K = K (validL l) := fun K => f_spec_FormValid_eq (by omega) (by omega) K
  by_cases hv : validL l = true
  · have h := valid_iff.1 hv
    by_cases h3 : l.length ≤ 3
    · by_cases ht : t ≠ 0 ∧ -30 ≤ t ∧ t ≤ 30
      · obtain ⟨o, e1, e2, e3, e4⟩ := vf_ex (R := R) hk h h3 ht (fun a b c e x hx hq hg => by
          subst e
          have hab := h.abs
          have hT3 : T3 a b c := ⟨hab a (by simp), hab b (by simp), hab c (by simp)⟩
          refine legendre hT3 fun p hp => ?_
          exact iso_van (p := p) (by
            rcases hp with h | h | h
            · exact .inl h
            · right; rw [h]; exact pr2
            · exact .inr h.1) hT3.fine (by simp) (by simp) (by simpa using hx) hq (gcd_ne.1 hg))
        refine ⟨o, fun w d ho => ⟨h, h3, ht, e1 w d ho⟩, fun ho h2 _ _ => ?_, e3, e4⟩
        obtain ⟨n1, n2⟩ := e2 ho
        cases he : evw l t with
        | false => rfl
        | true =>
          exfalso
          have hab := h.abs
          match l, h.lo, h2 with
          | [a], _, _ =>
            refine n1 a rfl (legendre2 (hab a (by simp)) ⟨by omega, by omega⟩ fun p hp => ?_)
            refine evw_van h h3 ht he (p := p) ?_
            rcases hp with e | e | ⟨hpr, hd⟩
            · exact .inl e
            · exact .inr (.inl e)
            · right; right
              rcases hpr.dvd_mul hd with h1 | h1
              · exact ⟨a, by simp, hpr, h1⟩
              · exact ⟨t, by simp, hpr, Int.dvd_neg.1 h1⟩
          | [a, b], _, _ =>
            refine n2 a b rfl (legendre ⟨hab a (by simp), hab b (by simp), by omega, by omega⟩ fun p hp => ?_)
            refine evw_van h h3 ht he (p := p) ?_
            rcases hp with e | e | ⟨hpr, hd⟩
            · exact .inl e
            · exact .inr (.inl e)
            · right; right
              rcases hpr.dvd_mul hd with h1 | h1
              · rcases hpr.dvd_mul h1 with h1 | h1
                · exact ⟨a, by simp, hpr, h1⟩
                · exact ⟨b, by simp, hpr, h1⟩
              · exact ⟨t, by simp, hpr, Int.dvd_neg.1 h1⟩
      · have hto : okT t = false := by
          cases ho : okT t with
          | false => rfl
          | true => exact absurd (okT_iff.1 ho) ht
        have hs9 : ∀ K : Bool → Option R, f_spec_l9Number k t K = K false := fun K => by
          by_cases h0 : t = 0
          · simp only [f_spec_l9Number, h0, decide_true, Bool.not_true, cond_false]
          · have : (decide (-30 ≤ t) && decide (t ≤ 30)) = false := by
              cases hx : (decide (-30 ≤ t) && decide (t ≤ 30)) with
              | false => rfl
              | true => rw [Bool.and_eq_true, decide_eq_true_eq, decide_eq_true_eq] at hx; exact absurd ⟨h0, hx⟩ ht
            simp only [f_spec_l9Number, h0, decide_false, Bool.not_false, cond_true, f_spec_l6In_eq, this]
        refine ⟨none, (fun w d h => by cases h), fun _ _ _ h => absurd h ht, fun K => ?_, fun K => ?_⟩
        · simp only [f_impl_ValueFind, hvv, hv, Bool.not_true, cond_false, show ¬ (3 : Int) < (l.length : Int) by omega, decide_false, f_impl_valueOk_eq, hto, Bool.not_false, cond_true, ansV]
        · simp only [f_spec_ValueFind, f_spec_l7Form, hsv, hv, cond_true, show (l.length : Int) ≤ 3 by omega, decide_true, Bool.not_true, cond_false, hs9, Bool.not_false, ansV]
    · refine ⟨none, (fun w d h => by cases h), fun _ h2 _ _ => by omega, fun K => ?_, fun K => ?_⟩
      · simp only [f_impl_ValueFind, hvv, hv, Bool.not_true, cond_false, show (3 : Int) < (l.length : Int) by omega, decide_true, cond_true, ansV]
      · simp only [f_spec_ValueFind, f_spec_l7Form, hsv, hv, cond_true, show ¬ (l.length : Int) ≤ 3 by omega, decide_false, Bool.not_false, ansV]
  · have hv' : validL l = false := by cases h : validL l with | false => rfl | true => exact absurd h hv
    refine ⟨none, (fun w d h => by cases h), fun _ _ h _ => absurd (valid_iff.2 h) hv, fun K => ?_, fun K => ?_⟩
    · simp only [f_impl_ValueFind, hvv, hv', Bool.not_false, cond_true, ansV]
    · simp only [f_spec_ValueFind, f_spec_l7Form, hsv, hv', cond_false, Bool.not_false, cond_true, ansV]

theorem laws_FnValueFind_of {k : Nat} (hk : 60000 ≤ k) (xs : List Int) {l : List Int} {t : Int} (hlt : Lt31 l) (hl : l.length ≤ 4) (hdraw : ∀ K : List Int → Int → Option R0, f_spec_DrawValueFind k xs K = K l t) :
    f_laws_FnValueFind k xs (fun b => some ([.bool b], [])) = (some ([.bool true], []) : Option R0) := by
  by_cases hx : 1048576 < (xs.length : Int)
  · simp only [f_laws_FnValueFind, hx, decide_true, cond_true]
  obtain ⟨o, e1, e2, e3, e4⟩ := vf_all (R := R0) hk (l := l) (t := t) hlt hl
  cases o with
  | none =>
    simp [f_laws_FnValueFind, hx, hdraw, e3, e4, ansV, f_laws_sameInts_eq (R := R0) (k := k) (l := []) (by simp; omega) (by simp)]
  | some p =>
    obtain ⟨w, d⟩ := p
    obtain ⟨h, h3, ht, hw, hq, hd⟩ := e1 w d rfl
    have hsum := fun K0 => sum_loop (R := R0) k (t := t) (d := d) hw (by omega) l.length 0 k 0 (by omega) (by omega) K0
    simp only [List.drop_zero, Int.zero_add, show ((0 : Nat) : Int) = 0 from rfl, show IntKind.wrap .i64 0 = 0 from rfl] at hsum
    have hwr : IntKind.wrap .i64 (qf l w) = IntKind.wrap .i64 (IntKind.wrap .i64 (t * d) * d) := by rw [hq, wrap_mul]
    simp only [f_laws_FnValueFind, hx, decide_false, cond_false, hdraw, e3, e4, ansV, beq_self_eq_true, Bool.not_true, f_laws_sameInts_eq (R := R0) (k := k) (l := w) (by omega) (by omega), decide_true, hsum, hwr, cond_true, hd, f_impl_ValueEverywhere_eq hk h ht, evw_of_value h h3 ht hw (show d ≠ 0 by omega) hq]

theorem laws_FnValueThere_of {k : Nat} (hk : 60000 ≤ k) (xs : List Int) {l : List Int} {t : Int} (hlt : Lt31 l) (hl : l.length ≤ 4) (hdraw : ∀ K : List Int → Int → Option R0, f_spec_DrawValueFind k xs K = K l t) :
    f_laws_FnValueThere k xs (fun b => some ([.bool b], [])) = (some ([.bool true], []) : Option R0) := by
  by_cases hx : 1048576 < (xs.length : Int)
  · simp only [f_laws_FnValueThere, hx, decide_true, cond_true]
  obtain ⟨o, e1, e2, e3, e4⟩ := vf_all (R := R0) hk (l := l) (t := t) hlt hl
  cases o with
  | none =>
    simp only [f_laws_FnValueThere, hx, decide_false, cond_false, hdraw, e3, e4, ansV, beq_self_eq_true, Bool.not_true, f_laws_sameInts_eq (R := R0) (k := k) (l := []) (by simp; omega) (by simp), decide_true]
    by_cases h2 : 2 < (l.length : Int)
    · simp only [h2, decide_true, cond_true]
    · simp only [h2, decide_false, cond_false]
      by_cases hv : validL l = true
      · have h := valid_iff.1 hv
        by_cases ht : t ≠ 0 ∧ -30 ≤ t ∧ t ≤ 30
        · rw [f_impl_ValueEverywhere_eq hk h ht, e2 rfl (by omega) h ht]
          rfl
        · have hto : okT t = false := by
            cases ho : okT t with
            | false => rfl
            | true => exact absurd (okT_iff.1 ho) ht
          simp [f_impl_ValueEverywhere, f_impl_FormValid_eq (R := R0) (k := k) hlt.sz (show l.length < k by omega) (show l.length < 4611686018427387904 by omega), hv, f_impl_valueOk_eq, hto]
      · have hv' : validL l = false := by cases h : validL l with | false => rfl | true => exact absurd h hv
        simp [f_impl_ValueEverywhere, f_impl_FormValid_eq (R := R0) (k := k) hlt.sz (show l.length < k by omega) (show l.length < 4611686018427387904 by omega), hv']
  | some p =>
    obtain ⟨w, d⟩ := p
    obtain ⟨h, h3, ht, hw, hq, hd⟩ := e1 w d rfl
    simp only [f_laws_FnValueThere, hx, decide_false, cond_false, hdraw, e3, e4, ansV, beq_self_eq_true, Bool.not_true, f_laws_sameInts_eq (R := R0) (k := k) (l := w) (by omega) (by omega), decide_true]
    by_cases h2 : 2 < (l.length : Int)
    · simp only [h2, decide_true, cond_true]
    · simp only [h2, decide_false, cond_false, f_impl_ValueEverywhere_eq hk h ht, evw_of_value h h3 ht hw (show d ≠ 0 by omega) hq]
      rfl

end Go.Proofs.Ytmmadcccjicdcaa.E
