/- Zeros of forms of three terms: the program's and the reference's. -/
import Derived.Test.YtmmadcccjicdcaaD5
namespace Go.Proofs.Ytmmadcccjicdcaa.E
set_option linter.unusedVariables false
set_option linter.unusedSimpArgs false
set_option maxRecDepth 100000

theorem small_wrap {x : Int} (h : x.natAbs ≤ 1000000000000) : IntKind.wrap .i64 x = x := wrap_abs (by omega)

def T3 (a b c : Int) : Prop := (a ≠ 0 ∧ a.natAbs ≤ 30) ∧ (b ≠ 0 ∧ b.natAbs ≤ 30) ∧ (c ≠ 0 ∧ c.natAbs ≤ 30)

theorem T3.valid {a b c : Int} (h : T3 a b c) : Valid [a, b, c] := ⟨fun x hx => by
  obtain ⟨h1, h2, h3⟩ := h
  simp only [List.mem_cons, List.not_mem_nil, or_false] at hx
  rcases hx with rfl | rfl | rfl <;> omega, by simp, by simp⟩

theorem normal_ex {R : Type} {k : Nat} (hk : 60000 ≤ k) {a b c : Int} (h : T3 a b c) :
    ∃ A B C U V W : Int, NI a b c A B C U V W ∧ (gc A B ≤ 1 ∧ gc A C ≤ 1 ∧ gc B C ≤ 1) ∧ (∀ K : List Int → List Int → Bool → Option R, f_impl_ZeroNormal k [a, b, c] K = K [A, B, C] [U, V, W] true) ∧
      (∀ K : List Int → List Int → Option R, f_spec_l5Normal k [a, b, c] K = K [A, B, C] [U, V, W]) := by
  have hv := valid_iff.2 h.valid
  obtain ⟨ha, hb, hc⟩ := h
  have hs := ni_start ha hb hc
  obtain ⟨A, B, C, U, V, W, g1, g2, g3, g4⟩ := nrm_ex (R := R) hk 20 _ _ _ _ _ _ hs (by have := hs.bnd; omega)
  have ht := hs.times
  have pa := rt_pos ha.1
  have pb := rt_pos hb.1
  have pc := rt_pos hc.1
  have ra := rt_small ha.1 ha.2
  have rb := rt_small hb.1 hb.2
  have rc := rt_small hc.1 hc.2
  have w1 : IntKind.wrap .i64 (rt b * rt c) = rt b * rt c := small_wrap (by have := hs.pu; omega)
  have w2 : IntKind.wrap .i64 (rt a * rt c) = rt a * rt c := small_wrap (by have := hs.pv; omega)
  have w3 : IntKind.wrap .i64 (rt a * rt b) = rt a * rt b := small_wrap (by have := hs.pw; omega)
  have wa : IntKind.wrap .i64 (rt a) = rt a := small_wrap (by omega)
  have wb : IntKind.wrap .i64 (rt b) = rt b := small_wrap (by omega)
  have wc : IntKind.wrap .i64 (rt c) = rt c := small_wrap (by omega)
  have ws : IntKind.wrap .i64 4 = 4 ∧ IntKind.wrap .i64 3 = 3 ∧ IntKind.wrap .i64 2 = 2 ∧ IntKind.wrap .i64 1 = 1 := by decide
  obtain ⟨q4, q3, q2, q1⟩ := ws
  refine ⟨A, B, C, U, V, W, g1, g2, fun K => ?_, fun K => ?_⟩
  · have hvv : ∀ K : Bool → Option R, f_impl_FormValid k [a, b, c] K = K true := fun K => by rw [f_impl_FormValid_eq (fun x hx => by simp at hx; omega) (by simp; omega) (by simp), hv]
    have hcl : ∀ K : List Int → Option R, f_slices_Clone k [a, b, c] K = K [a, b, c] := fun K => f_slices_Clone_eq k (by simp) (by simp) K
    have h3 := g3 k (by omega) (fun y17 y18 y19 => K y18 y19 y17)
    obtain ⟨f, hf⟩ : ∃ f, k = f + 4 := ⟨k - 4, by omega⟩
    have hl : ∀ K0 : List Int → List Int → Option R, l_impl_ZeroNormal_5 k k [a, b, c] 3 0 [a, b, c] [1, 1, 1] K0 = K0 [cor a, cor b, cor c] [rt b * rt c, rt a * rt c, rt a * rt b] := fun K0 => by
      have : l_impl_ZeroNormal_5 k (f + 4) [a, b, c] 3 0 [a, b, c] [1, 1, 1] K0 = K0 [cor a, cor b, cor c] [rt b * rt c, rt a * rt c, rt a * rt b] := by
        simp [l_impl_ZeroNormal_5, f_impl_coreOf_eq hk ha.1 (show a.natAbs ≤ 25000000 by omega), f_impl_coreOf_eq hk hb.1 (show b.natAbs ≤ 25000000 by omega), f_impl_coreOf_eq hk hc.1 (show c.natAbs ≤ 25000000 by omega), w1, w2, w3, wa, wb, wc, q4, q3, q2, q1]
      rw [← hf] at this
      exact this
    simp [f_impl_ZeroNormal, hvv, hcl, hl, h3]
  · have h4 := g4 k (by omega) (fun y19 y20 => K y19 y20)
    obtain ⟨f, hf⟩ : ∃ f, k = f + 4 := ⟨k - 4, by omega⟩
    have hl : ∀ K0 : List Int → List Int → Option R, l_spec_l5Normal_4 k k [a, b, c] 0 [] [1, 1, 1] K0 = K0 [cor a, cor b, cor c] [rt b * rt c, rt a * rt c, rt a * rt b] := fun K0 => by
      have : l_spec_l5Normal_4 k (f + 4) [a, b, c] 0 [] [1, 1, 1] K0 = K0 [cor a, cor b, cor c] [rt b * rt c, rt a * rt c, rt a * rt b] := by
        simp [l_spec_l5Normal_4, f_spec_l1Core_eq hk ha.1 (show a.natAbs ≤ 25000000 by omega), f_spec_l1Core_eq hk hb.1 (show b.natAbs ≤ 25000000 by omega), f_spec_l1Core_eq hk hc.1 (show c.natAbs ≤ 25000000 by omega), w1, w2, w3, wa, wb, wc, q4, q3, q2, q1, show Nat.ble 1 LIM = true from rfl, show Nat.ble 2 LIM = true from rfl, show Nat.ble 3 LIM = true from rfl]
      rw [← hf] at this
      exact this
    simp only [f_spec_l5Normal, hl]
    exact h4

theorem coprime_sqf {A B : Int} (hA : Sqf A) (hB : Sqf B) (h : gc A B ≤ 1) : Sqf (A * B) := by
  have hco : ∀ p, Pr p → p ∣ A → ¬ p ∣ B := fun p hp h1 h2 => by
    have h3 : p.natAbs ∣ gc A B := Nat.dvd_gcd (Int.natAbs_dvd_natAbs.2 h1) (Int.natAbs_dvd_natAbs.2 h2)
    have h4 : 0 < gc A B := Nat.gcd_pos_of_pos_left _ (by have := hA.ne; omega)
    have := Nat.le_of_dvd h4 h3
    have := hp.1
    omega
  have half : ∀ {A B : Int}, Sqf A → (∀ p, Pr p → p ∣ A → ¬ p ∣ B) → ∀ p, Pr p → p ∣ A → ¬ p * p ∣ A * B := fun {A B} hA hco p hp h1 h2 => by
    have hc := hp.coprime (hco p hp h1)
    have h3 : (p * p).natAbs ∣ A.natAbs * B.natAbs := by rw [← Int.natAbs_mul]; exact Int.natAbs_dvd_natAbs.2 h2
    rw [Int.natAbs_mul] at h3
    have h4 := (Nat.Coprime.mul_left hc hc).dvd_of_dvd_mul_right h3
    exact hA p hp.1 (Int.natAbs_dvd_natAbs.1 (by rw [Int.natAbs_mul]; exact h4))
  refine sqf_of_primes fun p hp hd => ?_
  rcases hp.dvd_mul (Int.dvd_trans ⟨p, rfl⟩ hd) with h1 | h1
  · exact half hA hco p hp h1 hd
  · exact half hB (fun q hq h2 h3 => hco q hq h3 h2) p hp h1 (by have := hd; rwa [Int.mul_comm A B] at this)

def Box (a b c : Int) : Prop := ∃ X Y Z : Int, (X ≠ 0 ∨ Y ≠ 0 ∨ Z ≠ 0) ∧ X * X ≤ (cor (b * c)).natAbs ∧ Y * Y ≤ (cor (a * c)).natAbs ∧ cor (a * b) * cor (a * c) * X * X + cor (a * b) * cor (b * c) * Y * Y + cor (a * c) * cor (b * c) * Z * Z = 0

def ans {R : Type} (o : Option (List Int)) (K : List Int → Bool → Option R) : Option R := match o with | some v => K v true | none => K [] false

def ans3 {R : Type} (o : Option (Int × Int × Int)) (K : List Int → Bool → Option R) : Option R := match o with | some (x, y, r) => K [x, y, r] true | none => K [] false

theorem three_ex {R : Type} {k : Nat} (hk : 60000 ≤ k) {a b c : Int} (h : T3 a b c) :
    ∃ o : Option (List Int), (∀ v, o = some v → v.length = 3 ∧ qf [a, b, c] v = 0 ∧ gcdL v ≠ 0 ∧ ∀ x ∈ v, x.natAbs ≤ 67500000000) ∧ (o = none → ¬ Box a b c) ∧
      (∀ K : List Int → Bool → Option R, f_impl_ZeroFind k [a, b, c] K = ans o K) ∧ (∀ K : List Int → Bool → Option R, f_impl_ZeroFinda k [a, b, c] K = ans o K) ∧ (∀ K : List Int → Bool → Option R, f_spec_l5Three k [a, b, c] K = ans o K) := by
  obtain ⟨A, B, C, U, V, W, g1, g2, g3, g4⟩ := normal_ex (R := R) hk h
  have hv := valid_iff.2 h.valid
  obtain ⟨ab1, ab2, ab3⟩ := g1.abc
  have hb := g1.bnd
  have ht := g1.times
  have hs := g1.sm3
  have sAB := coprime_sqf g1.sa g1.sb g2.1
  have sAC := coprime_sqf g1.sa g1.sc g2.2.1
  have sBC := coprime_sqf g1.sb g1.sc g2.2.2
  have lAC : (A * C).natAbs ≤ 27000 := by
    have := le_abs_mul (a := A * C) (b := B) (c := 1) g1.nb (by decide)
    rw [Int.mul_one, show A * C * B = A * B * C by grind] at this
    omega
  have lBC : (B * C).natAbs ≤ 27000 := by
    have := le_abs_mul (a := B * C) (b := A) (c := 1) g1.na (by decide)
    rw [Int.mul_one, show B * C * A = A * B * C by grind] at this
    omega
  obtain ⟨o, e1, e2, e3, e4⟩ := x_search (R := R) hk (A := A) (B := B) (C := C) (by omega) (by omega) g1.nc lAC lBC 165 0 (by omega) (by omega) (by omega)
  -- the search of the program, behind its checks
  have hsearch : ∀ K : Bool → List Int → Option R, f_impl_ZeroSearch k [A, B, C] K = ans3 o fun v b => K b v := fun K => by
    have h3 : l_impl_ZeroSearch_17 k k A B C 0 (fun y35 y36 => K y35 y36) (K false []) = ans3 o (fun v b => K b v) := e3 k (by omega) (fun y35 y36 => K y35 y36) (K false [])
    have rA := (cor_sqf g1.sa).2
    have rB := (cor_sqf g1.sb).2
    have rC := (cor_sqf g1.sc).2
    obtain ⟨f, hf⟩ : ∃ f, k = f + 4 := ⟨k - 4, by omega⟩
    have q : IntKind.wrap .i64 3 = 3 ∧ IntKind.wrap .i64 2 = 2 ∧ IntKind.wrap .i64 1 = 1 := by decide
    have l4 : ∀ (K0 : Bool → List Int → Option R) (K1 : List Int → Option R), l_impl_ZeroSearch_4 k k [A, B, C] [A, B, C] 3 0 K0 K1 = K1 [A, B, C] := fun K0 K1 => by
      have : l_impl_ZeroSearch_4 k (f + 4) [A, B, C] [A, B, C] 3 0 K0 K1 = K1 [A, B, C] := by
        simp [l_impl_ZeroSearch_4, f_impl_coreOf_eq hk g1.na (show A.natAbs ≤ 25000000 by omega), f_impl_coreOf_eq hk g1.nb (show B.natAbs ≤ 25000000 by omega), f_impl_coreOf_eq hk g1.nc (show C.natAbs ≤ 25000000 by omega),
          f_impl_size_eq k (show A.natAbs < 9223372036854775808 by omega), f_impl_size_eq k (show B.natAbs < 9223372036854775808 by omega), f_impl_size_eq k (show C.natAbs < 9223372036854775808 by omega), g1.na, g1.nb, g1.nc, rA, rB, rC, q.1, q.2.1, q.2.2,
          show ¬ (30000 : Int) < (A.natAbs : Nat) by omega, show ¬ (30000 : Int) < (B.natAbs : Nat) by omega, show ¬ (30000 : Int) < (C.natAbs : Nat) by omega]
      rw [← hf] at this
      exact this
    have lp : ∀ K : Int → Option R, f_impl_product k [A, B, C] K = K (A * B * C) := fun K => by
      have : l_impl_product_3 k (f + 4) 1 [A, B, C] 3 0 K = K (A * B * C) := by
        have lAB : (A * B).natAbs ≤ 27000 := by
          have := le_abs_mul (a := A * B) (b := C) (c := 1) g1.nc (by decide)
          rw [Int.mul_one] at this
          omega
        simp [l_impl_product_3, q.1, q.2.1, q.2.2, small_wrap (show A.natAbs ≤ 1000000000000 by omega), small_wrap (show (A * B).natAbs ≤ 1000000000000 by omega), small_wrap (show (A * B * C).natAbs ≤ 1000000000000 by omega)]
      rw [← hf] at this
      exact this
    have hsp : ∀ K : Int → Int → Int → Option R, f_impl_sharedPrime k [A, B, C] K = K 0 0 0 := fun K => by
      rw [f_impl_sharedPrime_eq hk hs, if_neg (by omega), if_neg (by omega), if_neg (by omega)]
    simp [f_impl_ZeroSearch, l4, hsp, lp, f_impl_size_eq k (show (A * B * C).natAbs < 9223372036854775808 by omega), show ¬ (30000 : Int) < ((A * B * C).natAbs : Nat) by omega, h3]
  have hssearch : ∀ K : List Int → Bool → Option R, f_spec_l5Search k [A, B, C] K = ans3 o K := fun K => by
    have h4 : l_spec_l5Search_5 k k A B C 0 (fun y20 y21 => K y21 y20) (K [] false) = ans3 o K := e4 k (by omega) (fun y20 y21 => K y21 y20) (K [] false)
    simp [f_spec_l5Search, h4]
  have hvv : ∀ K : Bool → Option R, f_impl_FormValid k [a, b, c] K = K true := fun K => by
    obtain ⟨ha, hb, hc⟩ := h
    rw [f_impl_FormValid_eq (fun x hx => by simp at hx; omega) (by simp; omega) (by simp), hv]
  cases o with
  | none =>
    refine ⟨none, (fun v h => by cases h), fun _ hbox => ?_, fun K => ?_, fun K => ?_, fun K => ?_⟩
    · obtain ⟨X, Y, Z, hne, hX, hY, hq⟩ := hbox
      have habn : a * b ≠ 0 := Int.mul_ne_zero h.1.1 h.2.1.1
      have hacn : a * c ≠ 0 := Int.mul_ne_zero h.1.1 h.2.2.1
      have hbcn : b * c ≠ 0 := Int.mul_ne_zero h.2.1.1 h.2.2.1
      have c1 := g1.cab.cor (Int.mul_ne_zero g1.na g1.nb) habn
      have c2 := g1.cac.cor (Int.mul_ne_zero g1.na g1.nc) hacn
      have c3 := g1.cbc.cor (Int.mul_ne_zero g1.nb g1.nc) hbcn
      rw [(cor_sqf sAB).1] at c1
      rw [(cor_sqf sAC).1] at c2
      rw [(cor_sqf sBC).1] at c3
      rw [← c1, ← c2, ← c3] at hq
      rw [← c3] at hX
      rw [← c2] at hY
      have hz : A * X * X + B * Y * Y + C * Z * Z = 0 := by
        have : A * B * C * (A * X * X + B * Y * Y + C * Z * Z) = 0 := by rw [← hq]; grind
        rcases Int.mul_eq_zero.1 this with h0 | h0
        · exact absurd h0 (Int.mul_ne_zero (Int.mul_ne_zero g1.na g1.nb) g1.nc)
        · exact h0
      have sq : ∀ t : Int, ((t.natAbs : Nat) : Int) * (t.natAbs : Nat) = t * t := fun t => by rw [← Int.natCast_mul, Int.natAbs_mul_self]
      have := e2 rfl (X.natAbs : Nat) (Y.natAbs : Nat) (by omega) (by rw [sq]; exact hX) (by omega) (by rw [sq]; exact hY) Z (by rw [Int.mul_assoc, sq, Int.mul_assoc B, sq, ← Int.mul_assoc, ← Int.mul_assoc]; exact hz)
      have hX0 : X = 0 := by omega
      have hY0 : Y = 0 := by omega
      rw [hX0, hY0] at hz
      have hZ : C * Z * Z = 0 := by omega
      have hZ0 : Z = 0 := by
        rcases Int.mul_eq_zero.1 hZ with h1 | h1
        · rcases Int.mul_eq_zero.1 h1 with h2 | h2
          · exact absurd h2 g1.nc
          · exact h2
        · exact h1
      omega
    · simp [f_impl_ZeroFind, hvv, g3, hsearch, ans3, ans]
    · simp [f_impl_ZeroFinda, hvv, g3, hsearch, ans3, ans]
    · simp [f_spec_l5Three, g4, hssearch, ans3, ans]
  | some p =>
    obtain ⟨x, y, r⟩ := p
    obtain ⟨hx0, hx1, hy0, hy1, hr0, hr1, hz, hne⟩ := e1 x y r rfl
    have mb : ∀ {s t : Int}, 0 ≤ s → s ≤ 100000 → 0 < t → t ≤ 675000 → (s * t).natAbs ≤ 100000 * 675000 := fun h1 h2 h3 h4 => mul_abs (by omega) (by omega)
    have m1 := mb hx0 (show x ≤ 100000 by omega) g1.pu ht.1
    have m2 := mb hy0 (show y ≤ 100000 by omega) g1.pv ht.2.1
    have m3 := mb hr0 hr1 g1.pw ht.2.2
    have w1 : IntKind.wrap .i64 (x * U) = x * U := small_wrap (by omega)
    have w2 : IntKind.wrap .i64 (y * V) = y * V := small_wrap (by omega)
    have w3 : IntKind.wrap .i64 (r * W) = r * W := small_wrap (by omega)
    have hall : ∀ t ∈ [x * U, y * V, r * W], t.natAbs ≤ 67500000000 := fun t ht => by
      simp only [List.mem_cons, List.not_mem_nil, or_false] at ht
      rcases ht with rfl | rfl | rfl <;> omega
    have hqf : qf [a, b, c] [x * U, y * V, r * W] = 0 := by
      have := g1.z x y r hz
      simp only [qf]
      rw [Int.mul_comm U x, Int.mul_comm V y, Int.mul_comm W r] at this
      omega
    have hg : gcdL [x * U, y * V, r * W] ≠ 0 := by
      rcases hne with h0 | h0
      · exact gcd_ne.2 ⟨x * U, by simp, Int.mul_ne_zero h0 (by have := g1.pu; omega)⟩
      · exact gcd_ne.2 ⟨y * V, by simp, Int.mul_ne_zero h0 (by have := g1.pv; omega)⟩
    have hsz : Sz [x * U, y * V, r * W] := fun t ht => by have := hall t ht; omega
    have ip : ∀ K : List Int → Option R, f_impl_plain k [x * U, y * V, r * W] K = K (plainL [x * U, y * V, r * W]) := fun K => f_impl_plain_eq (by omega) hsz (by simp) hg K
    have spp : ∀ K : List Int → Option R, f_spec_l5Plain k [x * U, y * V, r * W] K = K (plainL [x * U, y * V, r * W]) := fun K => f_spec_l5Plain_eq (by omega) hsz (by simp) hg K
    obtain ⟨f, hf⟩ : ∃ f, k = f + 4 := ⟨k - 4, by omega⟩
    have q : IntKind.wrap .i64 3 = 3 ∧ IntKind.wrap .i64 2 = 2 ∧ IntKind.wrap .i64 1 = 1 := by decide
    have l15 : ∀ K0 : List Int → Option R, l_impl_ZeroFind_15 k k [U, V, W] 3 0 [x, y, r] K0 = K0 [x * U, y * V, r * W] := fun K0 => by
      have : l_impl_ZeroFind_15 k (f + 4) [U, V, W] 3 0 [x, y, r] K0 = K0 [x * U, y * V, r * W] := by simp [l_impl_ZeroFind_15, w1, w2, w3, q.1, q.2.1, q.2.2]
      rw [← hf] at this
      exact this
    have l15a : ∀ K0 : List Int → Option R, l_impl_ZeroFinda_15 k k [U, V, W] 3 0 [x, y, r] K0 = K0 [x * U, y * V, r * W] := fun K0 => by
      have : l_impl_ZeroFinda_15 k (f + 4) [U, V, W] 3 0 [x, y, r] K0 = K0 [x * U, y * V, r * W] := by simp [l_impl_ZeroFinda_15, w1, w2, w3, q.1, q.2.1, q.2.2]
      rw [← hf] at this
      exact this
    refine ⟨some (plainL [x * U, y * V, r * W]), (fun v h => by cases h; exact ⟨by rw [plain_len]; rfl, plain_qf hg hqf, plain_gcd hg, plain_abs hall⟩), (fun h => by cases h), fun K => ?_, fun K => ?_, fun K => ?_⟩
    · simp [f_impl_ZeroFind, hvv, g3, hsearch, ans3, ans, l15, ip]
    · simp [f_impl_ZeroFinda, hvv, g3, hsearch, ans3, ans, l15a, ip]
    · have v1 : IntKind.wrap .i64 (U * x) = x * U := by rw [Int.mul_comm]; exact w1
      have v2 : IntKind.wrap .i64 (V * y) = y * V := by rw [Int.mul_comm]; exact w2
      have v3 : IntKind.wrap .i64 (W * r) = r * W := by rw [Int.mul_comm]; exact w3
      simp [f_spec_l5Three, g4, hssearch, ans3, ans, v1, v2, v3, spp]

end Go.Proofs.Ytmmadcccjicdcaa.E
