/- Values found: what comes out, for both. -/
import Derived.Test.YtmmadcccjicdcaaD8
namespace Go.Proofs.Ytmmadcccjicdcaa.E
set_option linter.unusedVariables false
set_option linter.unusedSimpArgs false
set_option maxRecDepth 100000

theorem qf_set : ∀ (l w : List Int) (i : Nat) (d : Int), i < l.length → w.length = l.length → qf l (w.set i (w.getD i 0 + d)) = qf l w + l.getD i 0 * (2 * w.getD i 0 * d + d * d)
  | [], w, i, d, h, _ => by simp at h
  | a :: l, [], i, d, _, h => by simp at h
  | a :: l, x :: w, 0, d, _, _ => by
    simp only [List.set_cons_zero, List.getD_cons_zero, qf]
    grind
  | a :: l, x :: w, i + 1, d, h, hl => by
    simp only [List.set_cons_succ, List.getD_cons_succ, qf]
    rw [qf_set l w i d (by simpa using h) (by simpa using hl)]
    omega

theorem ax_ex {R : Type} (k : Nat) {l v : List Int} {t : Int} (hl : v.length < 1000) : ∀ (j i0 : Nat), i0 + j = v.length → (∃ x ∈ v.drop i0, x ≠ 0) →
    ∃ i : Nat, i < v.length ∧ v.getD i 0 ≠ 0 ∧ (∀ fuel, j < fuel → ∀ (acc : List Int) (K0 : List Int → Int → List Int → Int → List Int → Option R), l_impl_ValueFind_7 k fuel l t v (i0 : Int) acc K0 = K0 l t v (i : Int) acc) ∧
      (∀ fuel, j < fuel → ∀ (K0 : Int → Option R), l_spec_l6kAxis_2 k fuel v (i0 : Int) K0 = K0 (i : Int))
  | 0, i0, hi, ⟨x, hx, _⟩ => by rw [List.drop_eq_nil_of_le (by omega)] at hx; cases hx
  | j + 1, i0, hi, ⟨x, hx, h0⟩ => by
    have hil : i0 < v.length := by omega
    rw [getD_drop hil] at hx
    by_cases hz : v.getD i0 0 = 0
    · have hx' : x ∈ v.drop (i0 + 1) := by
        rcases List.mem_cons.1 hx with e | e
        · rw [hz] at e; exact absurd e h0
        · exact e
      obtain ⟨i, g1, g2, g3, g4⟩ := ax_ex (R := R) k (l := l) (t := t) hl j (i0 + 1) (by omega) ⟨x, hx', h0⟩
      refine ⟨i, g1, g2, fun fuel hf acc K0 => ?_, fun fuel hf K0 => ?_⟩
      · obtain ⟨n, rfl⟩ : ∃ n, fuel = n + 1 := ⟨fuel - 1, by omega⟩
        rw [← g3 n (by omega) acc K0]
        simp only [l_impl_ValueFind_7, show (i0 : Int) < (v.length : Int) by omega, show (0 : Int) ≤ (i0 : Int) by omega, decide_true, Bool.and_self, cond_true, Int.toNat_natCast, hz, add_one (show i0 < 4611686018427387904 by omega)]
      · obtain ⟨n, rfl⟩ : ∃ n, fuel = n + 1 := ⟨fuel - 1, by omega⟩
        rw [← g4 n (by omega) K0]
        simp only [l_spec_l6kAxis_2, show (i0 : Int) < (v.length : Int) by omega, show (0 : Int) ≤ (i0 : Int) by omega, decide_true, Bool.and_self, cond_true, Int.toNat_natCast, hz, add_one (show i0 < 4611686018427387904 by omega)]
    · refine ⟨i0, hil, hz, fun fuel hf acc K0 => ?_, fun fuel hf K0 => ?_⟩
      · obtain ⟨n, rfl⟩ : ∃ n, fuel = n + 1 := ⟨fuel - 1, by omega⟩
        simp only [l_impl_ValueFind_7, show (i0 : Int) < (v.length : Int) by omega, show (0 : Int) ≤ (i0 : Int) by omega, decide_true, Bool.and_self, cond_true, Int.toNat_natCast, hz, decide_false, cond_false]
      · obtain ⟨n, rfl⟩ : ∃ n, fuel = n + 1 := ⟨fuel - 1, by omega⟩
        simp only [l_spec_l6kAxis_2, show (i0 : Int) < (v.length : Int) by omega, show (0 : Int) ≤ (i0 : Int) by omega, decide_true, Bool.and_self, cond_true, Int.toNat_natCast, hz, decide_false, cond_false]

theorem vf12 {R : Type} (k : Nat) {v : List Int} {t d a : Int} {i : Int} (hc : (t - a).natAbs ≤ 60) (hs : ∀ x ∈ v, x.natAbs ≤ 10000000000000) (hl : v.length < 1000) : ∀ (j idx fuel : Nat) (acc : List Int), idx + j = v.length → j < fuel → acc.length + j ≤ 100000 → ∀ K0 : Int → Int → List Int → Option R,
    l_impl_ValueFind_12 k fuel t d i a v (v.length : Int) (idx : Int) acc K0 = K0 d i (acc ++ (v.drop idx).map (· * (t - a)))
  | 0, idx, fuel, acc, hi, hf, hb, K0 => by
    obtain ⟨f, rfl⟩ : ∃ f, fuel = f + 1 := ⟨fuel - 1, by omega⟩
    have : v.drop idx = [] := List.drop_eq_nil_of_le (by omega)
    simp only [l_impl_ValueFind_12, show ¬ (idx : Int) < (v.length : Int) by omega, decide_false, cond_false, this, List.map_nil, List.append_nil]
  | j + 1, idx, fuel, acc, hi, hf, hb, K0 => by
    obtain ⟨f, rfl⟩ : ∃ f, fuel = f + 1 := ⟨fuel - 1, by omega⟩
    have hil : idx < v.length := by omega
    have hx := hs _ (getD_mem hil)
    rw [getD_drop hil]
    generalize hx' : v.getD idx 0 = x at *
    have w1 : IntKind.wrap .i64 (t - a) = t - a := small_wrap (by omega)
    have m1 : (x * (t - a)).natAbs ≤ 10000000000000 * 60 := mul_abs hx hc
    have w2 : IntKind.wrap .i64 (x * (t - a)) = x * (t - a) := wrap_abs (by omega)
    have ih := vf12 (R := R) k (d := d) (i := i) hc hs hl j (idx + 1) f (acc ++ [x * (t - a)]) (by omega) (by omega) (by simp; omega) K0
    simp only [l_impl_ValueFind_12, show (idx : Int) < (v.length : Int) by omega, show (0 : Int) ≤ (idx : Int) by omega, decide_true, Bool.and_self, cond_true, Int.toNat_natCast, hx', w1, w2, ble_lim (show acc.length + 1 ≤ 4294967296 by omega), add_one (show idx < 4611686018427387904 by omega)]
    rw [ih, List.append_assoc]
    rfl

/-- The vector that goes along a plane. -/
def outV (v : List Int) (c : Int) (i : Nat) (d : Int) : List Int := (v.map (· * c)).set i (v.getD i 0 * c + d)

theorem outV_len (v : List Int) (c : Int) (i : Nat) (d : Int) : (outV v c i d).length = v.length := by simp [outV]

theorem outV_get {v : List Int} {c : Int} {i : Nat} {d : Int} {j : Nat} (hj : j < v.length) : (outV v c i d).getD j 0 = if j = i then v.getD j 0 * c + d else v.getD j 0 * c := by
  unfold outV
  rw [List.getD_eq_getElem?_getD, List.getElem?_set, List.getD_eq_getElem?_getD]
  by_cases h : i = j
  · subst h
    simp [hj]
  · rw [if_neg h, if_neg (fun e => h e.symm)]
    simp [hj]

theorem map_get {v : List Int} {c : Int} {i : Nat} : (v.map (· * c)).getD i 0 = v.getD i 0 * c := by
  rw [List.getD_eq_getElem?_getD, List.getD_eq_getElem?_getD, List.getElem?_map]
  cases v[i]? <;> simp

theorem vf9 {R : Type} (k : Nat) {l v : List Int} {t d : Int} {i : Nat} (hi : i < l.length) (hc : (t - l.getD i 0).natAbs ≤ 60) (hd : d.natAbs ≤ 1000000000000000) (hs : ∀ x ∈ v, x.natAbs ≤ 10000000000000) (hl : v.length < 1000) : ∀ (j idx fuel : Nat) (acc : List Int), idx + j = v.length → j < fuel → acc.length + j ≤ 100000 → ∀ K0 : Int → List Int → Option R,
    l_spec_ValueFind_9 k fuel l t v (i : Int) d (idx : Int) acc K0 = K0 d (acc ++ (outV v (t - l.getD i 0) i d).drop idx)
  | 0, idx, fuel, acc, hi', hf, hb, K0 => by
    obtain ⟨f, rfl⟩ : ∃ f, fuel = f + 1 := ⟨fuel - 1, by omega⟩
    have : (outV v (t - l.getD i 0) i d).drop idx = [] := List.drop_eq_nil_of_le (by rw [outV_len]; omega)
    simp only [l_spec_ValueFind_9, show ¬ (idx : Int) < (v.length : Int) by omega, decide_false, cond_false, this, List.append_nil]
  | j + 1, idx, fuel, acc, hi', hf, hb, K0 => by
    obtain ⟨f, rfl⟩ : ∃ f, fuel = f + 1 := ⟨fuel - 1, by omega⟩
    have hil : idx < v.length := by omega
    have hx := hs _ (getD_mem hil)
    rw [getD_drop (l := outV v (t - l.getD i 0) i d) (by rw [outV_len]; exact hil), outV_get hil]
    generalize hx' : v.getD idx 0 = x at *
    generalize ha : l.getD i 0 = a at *
    have w1 : IntKind.wrap .i64 (t - a) = t - a := small_wrap (by omega)
    have m1 : (x * (t - a)).natAbs ≤ 10000000000000 * 60 := mul_abs hx hc
    have w2 : IntKind.wrap .i64 (x * (t - a)) = x * (t - a) := wrap_abs (by omega)
    have w3 : IntKind.wrap .i64 (x * (t - a) + d) = x * (t - a) + d := wrap_abs (by omega)
    have q1 : (decide ((0 : Int) ≤ (i : Int)) && decide ((i : Int) < (l.length : Int))) = true := by simp; omega
    by_cases e : idx = i
    · have ih := vf9 (R := R) k (l := l) (t := t) hi (by rw [ha]; exact hc) hd hs hl j (idx + 1) f (acc ++ [x * (t - a) + d]) (by omega) (by omega) (by simp; omega) K0
      rw [ha] at ih
      rw [if_pos e]
      simp only [l_spec_ValueFind_9, show (idx : Int) < (v.length : Int) by omega, show (0 : Int) ≤ (idx : Int) by omega, decide_true, Bool.and_self, cond_true, Int.toNat_natCast, hx', ha, q1, show ((idx : Int) = (i : Int)) by omega, w1, w2, w3, ble_lim (show acc.length + 1 ≤ 4294967296 by omega), add_one (show idx < 4611686018427387904 by omega)]
      simp only [e] at ih hx' ⊢
      simp only [show (0 : Int) ≤ (i : Int) by omega, show (i : Int) < (v.length : Int) by omega, show (i : Int) < (l.length : Int) by omega, decide_true, Bool.and_self, cond_true, Int.toNat_natCast, hx', w1, w2, w3, add_one (show i < 4611686018427387904 by omega)]
      rw [ih, List.append_assoc]
      rfl
    · have ih := vf9 (R := R) k (l := l) (t := t) hi (by rw [ha]; exact hc) hd hs hl j (idx + 1) f (acc ++ [x * (t - a)]) (by omega) (by omega) (by simp; omega) K0
      rw [ha] at ih
      rw [if_neg e]
      simp only [l_spec_ValueFind_9, show (idx : Int) < (v.length : Int) by omega, show (0 : Int) ≤ (idx : Int) by omega, decide_true, Bool.and_self, cond_true, Int.toNat_natCast, hx', ha, q1, show ¬ ((idx : Int) = (i : Int)) by omega, decide_false, cond_false, w1, w2, w3, ble_lim (show acc.length + 1 ≤ 4294967296 by omega), add_one (show idx < 4611686018427387904 by omega)]
      rw [ih, List.append_assoc]
      rfl

def ansV {R : Type} (o : Option (List Int × Int)) (K : List Int → Int → Bool → Option R) : Option R := match o with | some (w, d) => K w d true | none => K [] 0 false

theorem sqc_neg {a b x y : Int} (hx : x ≠ 0) (hy : y ≠ 0) (h : a * x * x + b * y * y = 0) (ha : a ≠ 0) (hb : b ≠ 0) : cor a = -cor b := by
  have h1 : SqC a (-b) := ⟨x, y, hx, hy, by rw [Int.neg_mul, ← Int.mul_assoc, ← Int.mul_assoc]; omega⟩
  have h2 := h1.cor ha (by omega)
  have hc := cor_spec hb
  have h3 : IsCore (-b) (-cor b) (rt b) := ⟨by rw [Int.neg_mul, ← hc.eq], hc.pos, sqf_neg hc.sqf⟩
  rw [h2]
  exact (core_eq h3).1.symm

theorem vf_ex {R : Type} {k : Nat} (hk : 60000 ≤ k) {l : List Int} {t : Int} (h : Valid l) (h3 : l.length ≤ 3) (ht : t ≠ 0 ∧ -30 ≤ t ∧ t ≤ 30)
    (hleg : ∀ a b c, l = [a, b, c] → ∀ x : List Int, x.length = 3 → qf l x = 0 → gcdL x ≠ 0 → Box a b c) :
    ∃ o : Option (List Int × Int), (∀ w d, o = some (w, d) → w.length = l.length ∧ qf l w = t * d * d ∧ 1 ≤ d) ∧ (o = none → (∀ a, l = [a] → cor a ≠ -cor (-t)) ∧ ∀ a b, l = [a, b] → ¬ Box a b (-t)) ∧
      (∀ K : List Int → Int → Bool → Option R, f_impl_ValueFind k l t K = ansV o K) ∧ (∀ K : List Int → Int → Bool → Option R, f_spec_ValueFind k l t K = ansV o K) := by
  have hv := valid_iff.2 h
  have hab := h.abs
  have hlo := h.lo
  have hvv : ∀ K : Bool → Option R, f_impl_FormValid k l K = K true := fun K => by rw [f_impl_FormValid_eq h.sz (by omega) (by omega), hv]
  have hsv : ∀ K : Bool → Option R, f_spec_FormValid k l K = K true := fun K => by rw [f_spec_FormValid_eq (by omega) (by omega), hv]
  have hto : okT t = true := okT_iff.2 ht
  have hi6 : (decide (-30 ≤ t) && decide (t ≤ 30)) = true := by simp; omega
  have hl3 : ¬ (3 : Int) < (l.length : Int) := by omega
  have hl3' : (l.length : Int) ≤ 3 := by omega
  obtain ⟨o1, z1, z2, z3, z4, z5, z6⟩ := zf_ex (R := R) hk h
  cases o1 with
  | some v =>
    obtain ⟨vl, vq, vg, vs⟩ := z1 v rfl
    obtain ⟨i, hi, hvi, x1, x2⟩ := ax_ex (R := R) k (l := l) (v := v) (t := t) (by omega) v.length 0 (by omega) (by rw [List.drop_zero]; exact gcd_ne.1 vg)
    have hil : i < l.length := by omega
    have hai := hab _ (getD_mem hil)
    have hvis := vs _ (getD_mem hi)
    have hms : ∀ x ∈ v.map (· * (t - l.getD i 0)), x.natAbs ≤ 600000000000000 := fun x hx => by
      obtain ⟨y, hy, rfl⟩ := List.mem_map.1 hx
      exact mul_abs (vs y hy) (show (t - l.getD i 0).natAbs ≤ 60 by omega)
    have hqm : qf l (v.map (· * (t - l.getD i 0))) = 0 := by rw [qf_scale, vq, Int.zero_mul]
    have hgm : (v.map (· * (t - l.getD i 0))).getD i 0 = v.getD i 0 * (t - l.getD i 0) := map_get
    have hqs := fun d => qf_set l (v.map (· * (t - l.getD i 0))) i d hil (by simpa using vl)
    have m9 := fun {d} (hd : d.natAbs ≤ 1000000000000000) => vf9 (R := R) k (l := l) (v := v) (t := t) (d := d) (i := i) hil (by omega) hd vs (by omega) v.length 0 k [] (by omega) (by omega) (by simp; omega)
    have m12 := fun {d} {i' : Int} => vf12 (R := R) k (v := v) (t := t) (d := d) (a := l.getD i 0) (i := i') (by omega) vs (by omega) v.length 0 k [] (by omega) (by omega) (by simp; omega)
    generalize hgi : l.getD i 0 = a at *
    generalize hgv : v.getD i 0 = y at *
    have hd1 : (2 * a).natAbs ≤ 60 := by omega
    have hd2 : (2 * a * y).natAbs ≤ 60 * 10000000000000 := mul_abs hd1 hvis
    have hd0 : 2 * a * y ≠ 0 := Int.mul_ne_zero (by omega) hvi
    have wa : IntKind.wrap .i64 (2 * a) = 2 * a := small_wrap (by omega)
    have wd : IntKind.wrap .i64 (2 * a * y) = 2 * a * y := wrap_abs (by omega)
    have m9' := m9 (d := 2 * a * y) (by omega)
    generalize hd : 2 * a * y = d at *
    have hyc : (y * (t - a)).natAbs ≤ 10000000000000 * 60 := mul_abs hvis (by omega)
    have wy : IntKind.wrap .i64 (y * (t - a) + d) = y * (t - a) + d := wrap_abs (by omega)
    have hout : outV v (t - a) i d = (v.map (· * (t - a))).set i (y * (t - a) + d) := by unfold outV; rw [hgv]
    have hol : (outV v (t - a) i d).length = l.length := by rw [outV_len, vl]
    have hos : Sz (outV v (t - a) i d) := fun x hx => by
      rw [hout] at hx
      rcases List.mem_or_eq_of_mem_set hx with h1 | h1
      · have := hms x h1; omega
      · subst h1; omega
    have hoq : qf l (outV v (t - a) i d) = t * d * d := by
      have := hqs d
      rw [hgm, hqm, Int.zero_add] at this
      rw [hout, this, ← hd]
      grind
    refine ⟨some ((outV v (t - a) i d).map (·.tdiv (lowP (outV v (t - a) i d) d)), d.tdiv (lowP (outV v (t - a) i d) d)), (fun w d' he => ?_), (fun he => by cases he), fun K => ?_, fun K => ?_⟩
    · cases he
      exact ⟨by rw [List.length_map, hol], low_qf hd0 hoq, low_den hd0⟩
    · have hlow := ilow_eq (R := R) (k := k) (by omega) hos (by omega) (by omega) hd0 (by omega) K
      have x1' := fun acc K0 => x1 k (by omega) acc K0
      simp only [List.drop_zero, List.nil_append, show ((0 : Nat) : Int) = 0 from rfl] at m12 x1'
      have hg12 : ∀ c : Int, List.getD (v.map (· * c)) i 0 = y * c := fun c => by rw [← hgv]; exact map_get
      simp only [f_impl_ValueFind, hvv, Bool.not_true, cond_false, hl3, decide_false, f_impl_valueOk_eq, hto, z5, ans, cond_true, x1', show (0 : Int) ≤ (i : Int) by omega, show (i : Int) < (l.length : Int) by omega, show (i : Int) < (v.length : Int) by omega, decide_true, Bool.and_self, Int.toNat_natCast, hgi, hgv, wa, hd, wd, m12, List.length_map, hg12, wy, ← hout]
      exact hlow
    · have hlow := f_spec_l9Low_eq (R := R) (k := k) (by omega) hos (by omega) (by omega) hd0 (by omega) (fun r15 r16 => K r15 r16 true)
      have x2' := fun K0 => x2 k (by omega) K0
      simp only [List.drop_zero, List.nil_append, show ((0 : Nat) : Int) = 0 from rfl] at m9' x2'
      simp only [f_spec_ValueFind, f_spec_l7Form, f_spec_l9Number, f_spec_l6kAxis, hsv, cond_true, hl3', decide_true, Bool.not_true, cond_false, ht.1, decide_false, Bool.not_false, f_spec_l6In_eq, hi6, z6, ans, x2', show (0 : Int) ≤ (i : Int) by omega, show (i : Int) < (l.length : Int) by omega, show (i : Int) < (v.length : Int) by omega, Bool.and_self, Int.toNat_natCast, hgi, hgv, wa, hd, wd, m9']
      exact hlow
  | none =>
    have hvl : Valid (l ++ [-t]) := ⟨fun x hx => by
      rcases List.mem_append.1 hx with h1 | h1
      · exact h.t x h1
      · simp at h1; subst h1; omega, by simp, by simp; omega⟩
    have wt : IntKind.wrap .i64 (0 - t) = -t := by rw [show 0 - t = -t by omega]; exact small_wrap (by omega)
    obtain ⟨o2, y1, y2, y3, y4, y5, y6⟩ := zf_ex (R := R) hk hvl
    cases o2 with
    | none =>
      refine ⟨none, (fun w d he => by cases he), fun _ => ⟨fun a e => y2 a (-t) (by rw [e]; rfl) rfl, fun a b e => y3 a b (-t) (by rw [e]; rfl) rfl⟩, fun K => ?_, fun K => ?_⟩
      · simp only [f_impl_ValueFind, hvv, Bool.not_true, cond_false, hl3, decide_false, f_impl_valueOk_eq, hto, z5, ans, f_slices_Clone_eq k hlo (show l.length ≤ 1000000 by omega), ble_lim (show l.length + 1 ≤ 4294967296 by omega), cond_true, wt, y5, Bool.not_false, ansV]
      · simp only [f_spec_ValueFind, f_spec_l7Form, f_spec_l9Number, hsv, cond_true, hl3', decide_true, Bool.not_true, cond_false, ht.1, decide_false, Bool.not_false, f_spec_l6In_eq, hi6, z6, ans, List.nil_append, Nat.zero_add, ble_lim (show l.length ≤ 4294967296 by omega), ble_lim (show l.length + 1 ≤ 4294967296 by omega), wt, y6, ansV]
    | some w =>
      obtain ⟨wl, wq, wg, ws⟩ := y1 w rfl
      have wl' : w.length = l.length + 1 := by rw [wl]; simp
      have hw : w = w.take l.length ++ [w.getD l.length 0] := by
        have h1 := List.take_append_drop l.length w
        rw [getD_drop (show l.length < w.length by omega), List.drop_eq_nil_of_le (show w.length ≤ l.length + 1 by omega)] at h1
        exact h1.symm
      have hol : (w.take l.length).length = l.length := by rw [List.length_take]; omega
      have hds := ws _ (getD_mem (show l.length < w.length by omega))
      have hos : Sz (w.take l.length) := fun x hx => by have := ws x (List.mem_of_mem_take hx); omega
      generalize hd : w.getD l.length 0 = d at *
      generalize ho : w.take l.length = o at *
      have hq : qf l o = t * d * d := by
        rw [hw, qf_append l o (-t) d hol] at wq
        rw [Int.neg_mul, Int.neg_mul] at wq
        omega
      have hd0 : d ≠ 0 := fun e => by
        rw [e, Int.mul_zero] at hq
        have hog : gcdL o ≠ 0 := by
          obtain ⟨x, hx, h0⟩ := gcd_ne.1 wg
          rw [hw] at hx
          rcases List.mem_append.1 hx with h1 | h1
          · exact gcd_ne.2 ⟨x, h1, h0⟩
          · simp at h1; rw [h1] at h0; exact absurd e h0
        match l, hlo, h3 with
        | [a], _, _ =>
          match o, hol with
          | [x], _ =>
            obtain ⟨z, hz, hz0⟩ := gcd_ne.1 hog
            simp at hz
            subst hz
            have ha := hab a (by simp)
            simp only [qf, Int.add_zero] at hq
            exact Int.mul_ne_zero (Int.mul_ne_zero ha.1 hz0) hz0 hq
        | [a, b], _, _ =>
          match o, hol with
          | [x, y], _ =>
            have ha := hab a (by simp)
            have hb := hab b (by simp)
            simp only [qf, Int.add_zero] at hq
            have hne : x ≠ 0 ∧ y ≠ 0 := by
              obtain ⟨z, hz, hz0⟩ := gcd_ne.1 hog
              have kx : x = 0 → y = 0 := fun e => by
                rw [e] at hq
                simp only [Int.mul_zero, Int.zero_add] at hq
                rcases Int.mul_eq_zero.1 hq with h1 | h1
                · rcases Int.mul_eq_zero.1 h1 with h2 | h2
                  · exact absurd h2 hb.1
                  · exact h2
                · exact h1
              have ky : y = 0 → x = 0 := fun e => by
                rw [e] at hq
                simp only [Int.mul_zero, Int.add_zero] at hq
                rcases Int.mul_eq_zero.1 hq with h1 | h1
                · rcases Int.mul_eq_zero.1 h1 with h2 | h2
                  · exact absurd h2 ha.1
                  · exact h2
                · exact h1
              simp only [List.mem_cons, List.not_mem_nil, or_false] at hz
              rcases hz with rfl | rfl
              · exact ⟨hz0, fun e => hz0 (ky e)⟩
              · exact ⟨fun e => hz0 (kx e), hz0⟩
            exact z2 a b rfl rfl (sqc_neg hne.1 hne.2 hq ha.1 hb.1)
        | [a, b, c], _, _ => exact z3 a b c rfl rfl (hleg a b c rfl o hol hq hog)
      refine ⟨some (o.map (·.tdiv (lowP o d)), d.tdiv (lowP o d)), (fun w' d' he => ?_), (fun he => by cases he), fun K => ?_, fun K => ?_⟩
      · cases he
        exact ⟨by rw [List.length_map, hol], low_qf hd0 hq, low_den hd0⟩
      · have hlow := ilow_eq (R := R) (k := k) (by omega) hos (by omega) (by omega) hd0 (by omega) K
        simp only [f_impl_ValueFind, hvv, Bool.not_true, cond_false, hl3, decide_false, f_impl_valueOk_eq, hto, z5, ans, f_slices_Clone_eq k hlo (show l.length ≤ 1000000 by omega), ble_lim (show l.length + 1 ≤ 4294967296 by omega), cond_true, wt, y5,
          show (l.length : Int) ≤ (w.length : Int) by omega, show (l.length : Int) < (w.length : Int) by omega, show (0 : Int) ≤ (l.length : Int) by omega, decide_true, Bool.and_self, Int.toNat_natCast, hd, ho, show Int.toNat 0 = 0 from rfl, List.drop_zero, Nat.le_refl]
        exact hlow
      · have hlow := f_spec_l9Low_eq (R := R) (k := k) (by omega) hos (by omega) (by omega) hd0 (by omega) (fun r15 r16 => K r15 r16 true)
        simp only [f_spec_ValueFind, f_spec_l7Form, f_spec_l9Number, hsv, cond_true, hl3', decide_true, Bool.not_true, cond_false, ht.1, decide_false, Bool.not_false, f_spec_l6In_eq, hi6, z6, ans, List.nil_append, Nat.zero_add, ble_lim (show l.length ≤ 4294967296 by omega), ble_lim (show l.length + 1 ≤ 4294967296 by omega), wt, y6,
          show (l.length : Int) ≤ (w.length : Int) by omega, show (l.length : Int) < (w.length : Int) by omega, show (0 : Int) ≤ (l.length : Int) by omega, Bool.and_self, Int.toNat_natCast, hd, ho, show Int.toNat 0 = 0 from rfl, List.drop_zero, Nat.le_refl]
        exact hlow

end Go.Proofs.Ytmmadcccjicdcaa.E
