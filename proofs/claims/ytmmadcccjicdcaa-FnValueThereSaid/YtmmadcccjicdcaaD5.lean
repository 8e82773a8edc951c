/- Plain vectors of the reference; normal terms of a form of three terms; the search behind its checks. -/
import Derived.Test.YtmmadcccjicdcaaD4
namespace Go.Proofs.Ytmmadcccjicdcaa.E
set_option linter.unusedVariables false
set_option linter.unusedSimpArgs false
set_option maxRecDepth 100000

theorem sp_loop1b {R : Type} {k : Nat} (hk : 200 ≤ k) {l : List Int} {s : Int} (hs : Sz l) (hl : l.length < 1000) : ∀ (j i fuel g : Nat), i + j = l.length → j < fuel → g < 9223372036854775808 → ∀ K0 : List Int → Int → Int → Option R,
    l_spec_l5Plain_5 k fuel l (g : Int) s false (i : Int) K0 = K0 l ((gcdF g (l.drop i) : Nat) : Int) s
  | 0, i, fuel, g, hi, hf, hg, K0 => by
    obtain ⟨f, rfl⟩ : ∃ f, fuel = f + 1 := ⟨fuel - 1, by omega⟩
    have : l.drop i = [] := List.drop_eq_nil_of_le (by omega)
    simp only [l_spec_l5Plain_5, show ¬ (i : Int) < (l.length : Int) by omega, decide_false, cond_false, this, gcdF, List.foldl_nil]
  | j + 1, i, fuel, g, hi, hf, hg, K0 => by
    obtain ⟨f, rfl⟩ : ∃ f, fuel = f + 1 := ⟨fuel - 1, by omega⟩
    have hil : i < l.length := by omega
    have hx := hs _ (getD_mem hil)
    rw [getD_drop hil]
    generalize ht : l.getD i 0 = t at *
    have hg' : Nat.gcd g t.natAbs < 9223372036854775808 := by
      by_cases h0 : g = 0
      · subst h0; rw [Nat.gcd_zero_left]; exact hx
      · have := Nat.le_of_dvd (by omega) (Nat.gcd_dvd_left g t.natAbs); omega
    have ih := sp_loop1b (R := R) hk (s := s) hs hl j (i + 1) f (Nat.gcd g t.natAbs) (by omega) (by omega) hg' K0
    have gg : ∀ K : Int → Option R, f_spec_l1Gcd k (g : Int) t K = K (Nat.gcd g t.natAbs : Nat) := fun K => by rw [f_spec_l1Gcd_eq hk (by omega) hx]; rfl
    have hgf : gcdF g (t :: l.drop (i + 1)) = gcdF (Nat.gcd g t.natAbs) (l.drop (i + 1)) := rfl
    rw [hgf, ← ih]
    by_cases h0 : t = 0
    · have gg0 : ∀ K : Int → Option R, f_spec_l1Gcd k (g : Int) 0 K = K (Nat.gcd g (Int.natAbs 0) : Nat) := by rw [h0] at gg; exact gg
      simp only [l_spec_l5Plain_5, show (i : Int) < (l.length : Int) by omega, show (0 : Int) ≤ (i : Int) by omega, Int.toNat_natCast, ht, decide_true, cond_true, Bool.and_self, h0, gg0, decide_false, Bool.not_true, Bool.not_false, cond_false, add_one (show i < 4611686018427387904 by omega)]
    · simp only [l_spec_l5Plain_5, show (i : Int) < (l.length : Int) by omega, show (0 : Int) ≤ (i : Int) by omega, Int.toNat_natCast, ht, decide_true, cond_true, Bool.and_self, gg, h0, decide_false, Bool.not_true, Bool.not_false, cond_false, add_one (show i < 4611686018427387904 by omega)]

theorem sp_loop1 {R : Type} {k : Nat} (hk : 200 ≤ k) {l : List Int} (hs : Sz l) (hl : l.length < 1000) : ∀ (j i fuel g : Nat), i + j = l.length → j < fuel → g < 9223372036854775808 → ∀ K0 : List Int → Int → Int → Option R,
    l_spec_l5Plain_5 k fuel l (g : Int) 1 true (i : Int) K0 = K0 l ((gcdF g (l.drop i) : Nat) : Int) (sgnV (l.drop i))
  | 0, i, fuel, g, hi, hf, hg, K0 => by
    obtain ⟨f, rfl⟩ : ∃ f, fuel = f + 1 := ⟨fuel - 1, by omega⟩
    have : l.drop i = [] := List.drop_eq_nil_of_le (by omega)
    simp only [l_spec_l5Plain_5, show ¬ (i : Int) < (l.length : Int) by omega, decide_false, cond_false, this, gcdF, List.foldl_nil, sgnV, posV, zeroV, Bool.or_true, if_true]
  | j + 1, i, fuel, g, hi, hf, hg, K0 => by
    obtain ⟨f, rfl⟩ : ∃ f, fuel = f + 1 := ⟨fuel - 1, by omega⟩
    have hil : i < l.length := by omega
    have hx := hs _ (getD_mem hil)
    rw [getD_drop hil]
    generalize ht : l.getD i 0 = t at *
    have hg' : Nat.gcd g t.natAbs < 9223372036854775808 := by
      by_cases h0 : g = 0
      · subst h0; rw [Nat.gcd_zero_left]; exact hx
      · have := Nat.le_of_dvd (by omega) (Nat.gcd_dvd_left g t.natAbs); omega
    have gg : ∀ K : Int → Option R, f_spec_l1Gcd k (g : Int) t K = K (Nat.gcd g t.natAbs : Nat) := fun K => by rw [f_spec_l1Gcd_eq hk (by omega) hx]; rfl
    have ihb := fun s : Int => sp_loop1b (R := R) hk (s := s) hs hl j (i + 1) f (Nat.gcd g t.natAbs) (by omega) (by omega) hg' K0
    have hgf : gcdF g (t :: l.drop (i + 1)) = gcdF (Nat.gcd g t.natAbs) (l.drop (i + 1)) := rfl
    by_cases h0 : t = 0
    · have ih := sp_loop1 (R := R) hk hs hl j (i + 1) f (Nat.gcd g t.natAbs) (by omega) (by omega) hg' K0
      have hsg : sgnV (t :: l.drop (i + 1)) = sgnV (l.drop (i + 1)) := by simp [sgnV, posV, zeroV, h0]
      rw [hsg, hgf]
      have gg0 : ∀ K : Int → Option R, f_spec_l1Gcd k (g : Int) 0 K = K (Nat.gcd g (Int.natAbs 0) : Nat) := by rw [h0] at gg; exact gg
      simp only [l_spec_l5Plain_5, show (i : Int) < (l.length : Int) by omega, show (0 : Int) ≤ (i : Int) by omega, Int.toNat_natCast, ht, decide_true, cond_true, Bool.and_self, gg0, h0, decide_false, Bool.not_true, Bool.not_false, cond_false, add_one (show i < 4611686018427387904 by omega)]
      rw [h0] at ih
      exact ih
    · rw [hgf]
      by_cases h1 : t < 0
      · have hsg : sgnV (t :: l.drop (i + 1)) = -1 := by simp [sgnV, posV, zeroV, h0, show ¬ 0 < t by omega]
        rw [hsg]
        simp only [l_spec_l5Plain_5, show (i : Int) < (l.length : Int) by omega, show (0 : Int) ≤ (i : Int) by omega, Int.toNat_natCast, ht, decide_true, cond_true, Bool.and_self, gg, h0, h1, decide_false, Bool.not_true, Bool.not_false, cond_false, add_one (show i < 4611686018427387904 by omega), ihb]
      · have hsg : sgnV (t :: l.drop (i + 1)) = 1 := by simp [sgnV, posV, zeroV, h0, show 0 < t by omega]
        rw [hsg]
        simp only [l_spec_l5Plain_5, show (i : Int) < (l.length : Int) by omega, show (0 : Int) ≤ (i : Int) by omega, Int.toNat_natCast, ht, decide_true, cond_true, Bool.and_self, gg, h0, h1, decide_false, Bool.not_true, Bool.not_false, cond_false, add_one (show i < 4611686018427387904 by omega), ihb]

theorem sgn_tdiv {s x g : Int} (hs : s = 1 ∨ s = -1) : (s * x).tdiv g = x.tdiv (s * g) := by
  rcases hs with rfl | rfl
  · rw [Int.one_mul, Int.one_mul]
  · rw [Int.neg_one_mul, Int.neg_one_mul, Int.neg_tdiv, Int.tdiv_neg]

theorem sp_loop2 {R : Type} (k : Nat) {l : List Int} {s g : Int} (hss : s = 1 ∨ s = -1) (hg : g ≠ 0) (hs : Sz l) (hl : l.length < 1000) : ∀ (j i fuel : Nat) (acc : List Int), i + j = l.length → j < fuel → acc.length + j ≤ 100000 → ∀ K0 : List Int → Option R,
    l_spec_l5Plain_14 k fuel l g s (i : Int) acc K0 = K0 (acc ++ (l.drop i).map fun x => x.tdiv (s * g))
  | 0, i, fuel, acc, hi, hf, hb, K0 => by
    obtain ⟨f, rfl⟩ : ∃ f, fuel = f + 1 := ⟨fuel - 1, by omega⟩
    have : l.drop i = [] := List.drop_eq_nil_of_le (by omega)
    simp only [l_spec_l5Plain_14, show ¬ (i : Int) < (l.length : Int) by omega, decide_false, cond_false, this, List.map_nil, List.append_nil]
  | j + 1, i, fuel, acc, hi, hf, hb, K0 => by
    obtain ⟨f, rfl⟩ : ∃ f, fuel = f + 1 := ⟨fuel - 1, by omega⟩
    have hil : i < l.length := by omega
    have hx := hs _ (getD_mem hil)
    rw [getD_drop hil]
    generalize ht : l.getD i 0 = t at *
    have w1 : IntKind.wrap .i64 (s * t) = s * t := wrap_abs (by rcases hss with rfl | rfl <;> omega)
    have hq := natAbs_tdiv_le t (s * g)
    have w2 : IntKind.wrap .i64 (t.tdiv (s * g)) = t.tdiv (s * g) := wrap_abs (by omega)
    simp only [l_spec_l5Plain_14, show (i : Int) < (l.length : Int) by omega, show (0 : Int) ≤ (i : Int) by omega, Int.toNat_natCast, ht, hg, decide_true, decide_false, Bool.not_false, cond_true, Bool.and_self, w1, sgn_tdiv hss, w2, add_one (show i < 4611686018427387904 by omega), ble_lim (show acc.length + 1 ≤ 4294967296 by omega)]
    rw [sp_loop2 k hss hg hs hl j (i + 1) f _ (by omega) (by omega) (by simp; omega) K0, List.append_assoc]
    rfl

theorem f_spec_l5Plain_eq {R : Type} {k : Nat} (hk : 1000 ≤ k) {l : List Int} (hs : Sz l) (hl : l.length < 200) (hg : gcdL l ≠ 0) (K : List Int → Option R) : f_spec_l5Plain k l K = K (plainL l) := by
  have h1 := sp_loop1 (R := R) (k := k) (by omega) hs (by omega) l.length 0 k 0 (by omega) (by omega) (by omega)
  have h2 := sp_loop2 (R := R) k (l := l) (g := ((gcdL l : Nat) : Int)) (sgnV_cases l) (by omega) hs (by omega) l.length 0 k [] (by omega) (by omega) (by simp; omega) K
  simp only [List.drop_zero, show ((0 : Nat) : Int) = 0 from rfl, List.nil_append] at h1 h2
  simp only [f_spec_l5Plain, h1]
  exact h2

/- what a plain vector is -/
theorem plain_div {l : List Int} {x : Int} (hx : x ∈ l) : x.tdiv (sgnV l * (gcdL l : Nat)) * (sgnV l * (gcdL l : Nat)) = x := by
  apply Int.tdiv_mul_cancel
  have h := gcdL_dvd hx
  rcases sgnV_cases l with e | e <;> rw [e]
  · rw [Int.one_mul]; exact h
  · rw [Int.neg_one_mul]; exact Int.neg_dvd.2 h

theorem qf_scale (d : Int) : ∀ l v : List Int, qf l (v.map (· * d)) = qf l v * (d * d)
  | [], v => by cases v <;> simp [qf]
  | a :: l, [] => by simp [qf]
  | a :: l, x :: v => by
    have := qf_scale d l v
    simp only [List.map_cons, qf, this]
    grind

theorem plain_qf {l v : List Int} (hg : gcdL v ≠ 0) (h0 : qf l v = 0) : qf l (plainL v) = 0 := by
  have hd0 : sgnV v * ((gcdL v : Nat) : Int) ≠ 0 := by rcases sgnV_cases v with h | h <;> rw [h] <;> omega
  have e : (plainL v).map (· * (sgnV v * (gcdL v : Nat))) = v := by
    unfold plainL
    rw [List.map_map]
    conv => rhs; rw [← List.map_id v]
    exact List.map_congr_left fun x hx => plain_div hx
  have := qf_scale (sgnV v * (gcdL v : Nat)) l (plainL v)
  rw [e, h0] at this
  rcases Int.mul_eq_zero.1 this.symm with h | h
  · exact h
  · exact absurd h (Int.mul_ne_zero hd0 hd0)

theorem zeroV_iff : ∀ {v : List Int}, zeroV v = true ↔ ∀ x ∈ v, x = 0
  | [] => by simp [zeroV]
  | a :: r => by simp [zeroV, zeroV_iff (v := r)]

theorem gcd_ne {v : List Int} : gcdL v ≠ 0 ↔ ∃ x ∈ v, x ≠ 0 := by
  constructor
  · intro h
    apply Classical.byContradiction
    intro hn
    exact h (gcdL_zero.2 (zeroV_iff.2 fun x hx => Classical.byContradiction fun h0 => hn ⟨x, hx, h0⟩))
  · rintro ⟨x, hx, h0⟩ h
    exact h0 (zeroV_iff.1 (gcdL_zero.1 h) x hx)

theorem plain_gcd {v : List Int} (hg : gcdL v ≠ 0) : gcdL (plainL v) ≠ 0 := by
  obtain ⟨x, hx, h0⟩ := gcd_ne.1 hg
  refine gcd_ne.2 ⟨_, List.mem_map_of_mem hx, fun e => h0 ?_⟩
  have := plain_div hx
  rw [e] at this
  omega

theorem plain_len (v : List Int) : (plainL v).length = v.length := by simp [plainL]

theorem plain_abs {v : List Int} {n : Nat} (h : ∀ x ∈ v, x.natAbs ≤ n) : ∀ x ∈ plainL v, x.natAbs ≤ n := fun x hx => by
  obtain ⟨y, hy, rfl⟩ := List.mem_map.1 hx
  have := natAbs_tdiv_le y (sgnV v * (gcdL v : Nat))
  have := h y hy
  omega

/- normal terms -/
theorem rt_small {n : Int} (h0 : n ≠ 0) (h : n.natAbs ≤ 30) : rt n ≤ 5 := by
  have h1 := rt_le h0
  rcases Int.lt_or_le 5 (rt n) with h2 | h2
  · have : 6 * 6 ≤ rt n * rt n := sq_le (by omega) (by omega)
    omega
  · exact h2

theorem ni_start {a b c : Int} (ha : a ≠ 0 ∧ a.natAbs ≤ 30) (hb : b ≠ 0 ∧ b.natAbs ≤ 30) (hc : c ≠ 0 ∧ c.natAbs ≤ 30) :
    NI a b c (cor a) (cor b) (cor c) (rt b * rt c) (rt a * rt c) (rt a * rt b) := by
  have ca := cor_spec ha.1
  have cb := cor_spec hb.1
  have cc := cor_spec hc.1
  have ra := rt_small ha.1 ha.2
  have rb := rt_small hb.1 hb.2
  have rc := rt_small hc.1 hc.2
  have la := (rt_le ha.1).2
  have lb := (rt_le hb.1).2
  have lc := (rt_le hc.1).2
  have pa := ca.pos
  have pb := cb.pos
  have pc := cc.pos
  have bnd : (cor a * cor b * cor c).natAbs ≤ 30 * 30 * 30 := mul_abs (mul_abs (by omega) (by omega)) (by omega)
  have tb : ∀ {x y : Int}, 0 < x → x ≤ 5 → 0 < y → y ≤ 5 → x * y * ((cor a * cor b * cor c).natAbs : Int) ≤ 675000 := fun {x y} h1 h2 h3 h4 => by
    have e1 : x * y ≤ 5 * 5 := Int.mul_le_mul h2 h4 (by omega) (by omega)
    have e2 : x * y * ((cor a * cor b * cor c).natAbs : Int) ≤ 25 * ((cor a * cor b * cor c).natAbs : Int) := Int.mul_le_mul_of_nonneg_right (by omega) (by omega)
    omega
  refine ⟨fun x y z hz => ?_, ca.sqf.ne, cb.sqf.ne, cc.sqf.ne, ca.sqf, cb.sqf, cc.sqf, ⟨rt a * rt b, 1, Int.mul_ne_zero (by omega) (by omega), by decide, ?_⟩, ⟨rt a * rt c, 1, Int.mul_ne_zero (by omega) (by omega), by decide, ?_⟩, ⟨rt b * rt c, 1, Int.mul_ne_zero (by omega) (by omega), by decide, ?_⟩,
    Int.mul_pos pb pc, Int.mul_pos pa pc, Int.mul_pos pa pb, bnd, tb pb rb pc rc, tb pa ra pc rc, tb pa ra pb rb⟩
  · have e : a * (rt b * rt c * x) * (rt b * rt c * x) + b * (rt a * rt c * y) * (rt a * rt c * y) + c * (rt a * rt b * z) * (rt a * rt b * z) = (rt a * rt b * rt c) * (rt a * rt b * rt c) * (cor a * x * x + cor b * y * y + cor c * z * z) := by
      have h1 := ca.eq
      have h2 := cb.eq
      have h3 := cc.eq
      generalize rt a = p at *
      generalize rt b = q at *
      generalize rt c = r at *
      generalize cor a = d at *
      generalize cor b = e at *
      generalize cor c = f at *
      subst h1 h2 h3
      grind
    rw [e, hz, Int.mul_zero]
  · have h1 := ca.eq
    have h2 := cb.eq
    grind
  · have h1 := ca.eq
    have h2 := cc.eq
    grind
  · have h1 := cb.eq
    have h2 := cc.eq
    grind

end Go.Proofs.Ytmmadcccjicdcaa.E
