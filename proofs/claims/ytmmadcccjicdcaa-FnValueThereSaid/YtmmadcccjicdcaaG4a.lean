/- The program's functions as plain Lean functions, and that the program comes to what they say. -/
import Derived.Test.YtmmadcccjicdcaaG2
namespace Go.Proofs.Ytmmadcccjicdcaa.E
set_option linter.unusedVariables false
set_option maxRecDepth 100000

/-! "loop.example/localglobal/spec.FormValid" -/
noncomputable def l_spec_FormValid_2 {R : Type} (k : Nat) : Nat → List Int → Int → (Bool → Option R) → (List Int → Option R) → Option R
  | 0, _, _, _, _ => none
  | n + 1, v1, v2, K0, K1 => cond (decide (v2 < (v1.length : Int))) (cond (decide (0 ≤ v2) && decide (v2 < ((v1).length : Int))) (cond (decide ((List.getD v1 (Int.toNat v2) 0) = 0)) (K0 false) (cond (decide (0 ≤ v2) && decide (v2 < ((v1).length : Int))) (f_spec_l6In k (List.getD v1 (Int.toNat v2) 0) (-30) 30 (fun r3 => cond (!(r3)) (K0 false) (l_spec_FormValid_2 k n v1 (IntKind.wrap .i64 (v2 + 1)) K0 K1))) none)) none) (K1 v1)

noncomputable def f_spec_FormValid {R : Type} (k : Nat) (a0 : List Int) (K : Bool → Option R) : Option R :=
  l_spec_FormValid_2 k k a0 0 (fun y4 => K y4) (fun y5 => f_spec_l6In k (y5.length : Int) 1 4 (fun r6 => K r6))


noncomputable def g_spec_FormValid {R : Type} (k : Nat) (v : HT [.sl true 3 (.int .i64)]) (w : HO []) (K : List SV → List Ob → Option R) : Option R := f_spec_FormValid k v.1 (fun r0 => K [.bool r0] [])
noncomputable def F_spec_FormValid {R : Type} (k : Nat) : CF R := wrapF [.sl true 3 (.int .i64)] [] (g_spec_FormValid k)
noncomputable def A_spec_FormValid : Ann := { pre := nats [], cut := look [(2, [0, 3])], frz := fun i => match look [] i with | some l => l | none => [], fz := nats [], out := outOf [(0, [0])] (some [2]) }
noncomputable def T_spec_FormValid {R : Type} (k : Nat) : List (Nat × (Bool × CF R)) := [(38, (false, (F_spec_l6In k)))]
noncomputable abbrev h_spec_FormValid_2 : Shape := ⟨[(0, .sl true 3 (.int .i64)), (3, .int .i64)], []⟩
noncomputable def lf_spec_FormValid_2 {R : Type} (k : Nat) (n : Nat) (v : h_spec_FormValid_2.T) (K : Exit → St → Option R) : Option R := l_spec_FormValid_2 k n v.1.1 v.1.2.1 (fun y0 => K (.ret) ⟨[(2, .s (.bool y0))], []⟩) (fun y0 => K (.exit 0) ⟨[(0, .s (.sl true 3 (.int .i64) y0))], []⟩)
noncomputable def L_spec_FormValid {R : Type} (k : Nat) (c : Code) (s : St) (K : Exit → St → Option R) : Option R := cond (Nat.beq (firstReg c) 2) ((h_spec_FormValid_2.dec (cutAt A_spec_FormValid c s)).bind fun v => lf_spec_FormValid_2 k k v K) (none)
theorem hT_spec_FormValid {R : Type} (k : Nat) : TabOk tyE.P (T_spec_FormValid (R := R) k) := ⟨(good_spec_l6In k), trivial⟩
noncomputable def b_spec_FormValid_2 : Code := nthLoop (bodyOf Try.f37) 0
theorem hs_spec_FormValid_2 {R : Type} (k : Nat) (n : Nat) (K : Exit → St → Option R) : ∀ v, lf_spec_FormValid_2 k (n + 1) v K = evk (look (T_spec_FormValid k)) tyE A_spec_FormValid (Func.ntmps Try.f37) (drawn (look (T_spec_FormValid k)) tyE A_spec_FormValid (nats []) (Func.ntmps Try.f37)) (L_spec_FormValid k) b_spec_FormValid_2 (h_spec_FormValid_2.enc v) (loopK A_spec_FormValid b_spec_FormValid_2 h_spec_FormValid_2.dec (lf_spec_FormValid_2 k) n K) := by
  rintro ⟨⟨x0, x1, _⟩, _⟩
  kernel_rfl
theorem lo_spec_FormValid_2 {R : Type} (k : Nat) : LoopOk tyE.P (Func.ntmps Try.f37) (L_spec_FormValid (R := R) k) b_spec_FormValid_2 :=
  fn_loop tyE_ok (tab_ok (hT_spec_FormValid k)) A_spec_FormValid (nats []) (loops_nil (R := R) (by kernel_rfl)) h_spec_FormValid_2 (lf_spec_FormValid_2 k) k (fun s K => by kernel_rfl) (fun v K => by kernel_rfl) fun n v K r h => hs_spec_FormValid_2 k n K v ▸ h
theorem hg_spec_FormValid {R : Type} (k : Nat) (K : List SV → List Ob → Option R) : ∀ v w, g_spec_FormValid k v w K = runF (look (T_spec_FormValid k)) tyE A_spec_FormValid (nats []) (L_spec_FormValid k) (Func.ntmps Try.f37) [.tmp 2] (bodyOf Try.f37) [.sl true 3 (.int .i64)] [] [.bool] v w K := by
  rintro ⟨x0, _⟩ _
  kernel_rfl
theorem good_spec_FormValid {R : Type} (k : Nat) : Good tyE.P 37 false (F_spec_FormValid (R := R) k) :=
  fn_good tyE_ok (tab_ok (hT_spec_FormValid k)) A_spec_FormValid (nats []) (fn := Try.f37) (c := bodyOf Try.f37) (rs := [.tmp 2]) (by kernel_rfl) (by kernel_rfl) (by kernel_rfl) (by kernel_rfl) (L := L_spec_FormValid k) (loops_one (R := R) (by kernel_rfl) (lo_spec_FormValid_2 k)) [.sl true 3 (.int .i64)] [] [.bool] (g_spec_FormValid k) fun v w K r h => hg_spec_FormValid k K v w ▸ h


/-! "loop.example/localglobal/spec.l4Value" -/
noncomputable def l_spec_l4Value_3 {R : Type} (k : Nat) : Nat → List Int → List Int → Int → Int → (Int → Option R) → Option R
  | 0, _, _, _, _, _ => none
  | n + 1, v1, v2, v3, v4, K0 => cond (decide (v4 < (v1.length : Int))) (cond (decide (0 ≤ v4) && decide (v4 < ((v1).length : Int))) (cond (decide (0 ≤ v4) && decide (v4 < ((v2).length : Int))) (cond (decide (0 ≤ v4) && decide (v4 < ((v2).length : Int))) (l_spec_l4Value_3 k n v1 v2 (IntKind.wrap .i64 (v3 + (IntKind.wrap .i64 ((IntKind.wrap .i64 ((List.getD v1 (Int.toNat v4) 0) * (List.getD v2 (Int.toNat v4) 0))) * (List.getD v2 (Int.toNat v4) 0))))) (IntKind.wrap .i64 (v4 + 1)) K0) none) none) none) (K0 v3)

noncomputable def f_spec_l4Value {R : Type} (k : Nat) (a0 : List Int) (a1 : List Int) (K : Int → Option R) : Option R :=
  l_spec_l4Value_3 k k a0 a1 0 0 (fun y5 => K y5)


noncomputable def g_spec_l4Value {R : Type} (k : Nat) (v : HT [.sl true 3 (.int .i64), .sl true 3 (.int .i64)]) (w : HO []) (K : List SV → List Ob → Option R) : Option R := f_spec_l4Value k v.1 v.2.1 (fun r0 => K [.int .i64 r0] [])
noncomputable def F_spec_l4Value {R : Type} (k : Nat) : CF R := wrapF [.sl true 3 (.int .i64), .sl true 3 (.int .i64)] [] (g_spec_l4Value k)
noncomputable def A_spec_l4Value : Ann := { pre := nats [], cut := look [(3, [0, 1, 5, 6])], frz := fun i => match look [] i with | some l => l | none => [], fz := nats [], out := outOf [(0, [5])] (some [4]) }
noncomputable def T_spec_l4Value {R : Type} (k : Nat) : List (Nat × (Bool × CF R)) := []
noncomputable abbrev h_spec_l4Value_3 : Shape := ⟨[(0, .sl true 3 (.int .i64)), (1, .sl true 3 (.int .i64)), (5, .int .i64), (6, .int .i64)], []⟩
noncomputable def lf_spec_l4Value_3 {R : Type} (k : Nat) (n : Nat) (v : h_spec_l4Value_3.T) (K : Exit → St → Option R) : Option R := l_spec_l4Value_3 k n v.1.1 v.1.2.1 v.1.2.2.1 v.1.2.2.2.1 (fun y0 => K (.exit 0) ⟨[(5, .s (.int .i64 y0))], []⟩)
noncomputable def L_spec_l4Value {R : Type} (k : Nat) (c : Code) (s : St) (K : Exit → St → Option R) : Option R := cond (Nat.beq (firstReg c) 3) ((h_spec_l4Value_3.dec (cutAt A_spec_l4Value c s)).bind fun v => lf_spec_l4Value_3 k k v K) (none)
theorem hT_spec_l4Value {R : Type} (k : Nat) : TabOk tyE.P (T_spec_l4Value (R := R) k) := trivial
noncomputable def b_spec_l4Value_3 : Code := nthLoop (bodyOf Try.f69) 0
theorem hs_spec_l4Value_3 {R : Type} (k : Nat) (n : Nat) (K : Exit → St → Option R) : ∀ v, lf_spec_l4Value_3 k (n + 1) v K = evk (look (T_spec_l4Value k)) tyE A_spec_l4Value (Func.ntmps Try.f69) (drawn (look (T_spec_l4Value k)) tyE A_spec_l4Value (nats []) (Func.ntmps Try.f69)) (L_spec_l4Value k) b_spec_l4Value_3 (h_spec_l4Value_3.enc v) (loopK A_spec_l4Value b_spec_l4Value_3 h_spec_l4Value_3.dec (lf_spec_l4Value_3 k) n K) := by
  rintro ⟨⟨x0, x1, x2, x3, _⟩, _⟩
  kernel_rfl
theorem lo_spec_l4Value_3 {R : Type} (k : Nat) : LoopOk tyE.P (Func.ntmps Try.f69) (L_spec_l4Value (R := R) k) b_spec_l4Value_3 :=
  fn_loop tyE_ok (tab_ok (hT_spec_l4Value k)) A_spec_l4Value (nats []) (loops_nil (R := R) (by kernel_rfl)) h_spec_l4Value_3 (lf_spec_l4Value_3 k) k (fun s K => by kernel_rfl) (fun v K => by kernel_rfl) fun n v K r h => hs_spec_l4Value_3 k n K v ▸ h
theorem hg_spec_l4Value {R : Type} (k : Nat) (K : List SV → List Ob → Option R) : ∀ v w, g_spec_l4Value k v w K = runF (look (T_spec_l4Value k)) tyE A_spec_l4Value (nats []) (L_spec_l4Value k) (Func.ntmps Try.f69) [.tmp 4] (bodyOf Try.f69) [.sl true 3 (.int .i64), .sl true 3 (.int .i64)] [] [.int .i64] v w K := by
  rintro ⟨x0, x1, _⟩ _
  kernel_rfl
theorem good_spec_l4Value {R : Type} (k : Nat) : Good tyE.P 69 false (F_spec_l4Value (R := R) k) :=
  fn_good tyE_ok (tab_ok (hT_spec_l4Value k)) A_spec_l4Value (nats []) (fn := Try.f69) (c := bodyOf Try.f69) (rs := [.tmp 4]) (by kernel_rfl) (by kernel_rfl) (by kernel_rfl) (by kernel_rfl) (L := L_spec_l4Value k) (loops_one (R := R) (by kernel_rfl) (lo_spec_l4Value_3 k)) [.sl true 3 (.int .i64), .sl true 3 (.int .i64)] [] [.int .i64] (g_spec_l4Value k) fun v w K r h => hg_spec_l4Value k K v w ▸ h


/-! "loop.example/localglobal/spec.l9Many" -/
noncomputable def l_spec_l9Many_7 {R : Type} (k : Nat) (rc : List Int → List Int → Int → Int → (Int → Option R) → Option R) : Nat → List Int → List Int → Int → Int → Int → Int → (Int → Option R) → Option R
  | 0, _, _, _, _, _, _, _ => none
  | n + 1, v2, v3, v4, v5, v6, v7, K0 => cond (decide (v7 ≤ v5)) (cond (Nat.ble (0 + v3.length) LIM) (cond (Nat.ble (([] ++ v3).length + 1) LIM) (rc v2 (([] ++ v3) ++ [v7]) v4 v5 (fun r8 => l_spec_l9Many_7 k rc n v2 v3 v4 v5 (IntKind.wrap .i64 (v6 + r8)) (IntKind.wrap .i64 (v7 + 1)) K0)) none) none) (K0 v6)

noncomputable def f_spec_l9Many {R : Type} (k : Nat) : Nat → List Int → List Int → Int → Int → (Int → Option R) → Option R
  | 0, _, _, _, _, _ => none
  | d + 1, a0, a1, a2, a3, K =>
    let rc := f_spec_l9Many k d
    cond (decide ((a1.length : Int) = (a0.length : Int))) (f_spec_l4Value k a0 a1 (fun r1 => cond (decide (r1 = a2)) (K 1) (K 0))) (l_spec_l9Many_7 k rc k a0 a1 a2 a3 0 (IntKind.wrap .i64 (0 - a3)) (fun y9 => K y9))


noncomputable def g_spec_l9Many {R : Type} (k d : Nat) (v : HT [.sl true 3 (.int .i64), .sl true 3 (.int .i64), .int .i64, .int .i64]) (w : HO []) (K : List SV → List Ob → Option R) : Option R := f_spec_l9Many k d v.1 v.2.1 v.2.2.1 v.2.2.2.1 (fun r0 => K [.int .i64 r0] [])
noncomputable def F_spec_l9Many {R : Type} (k d : Nat) : CF R := wrapF [.sl true 3 (.int .i64), .sl true 3 (.int .i64), .int .i64, .int .i64] [] (g_spec_l9Many k d)
noncomputable def A_spec_l9Many : Ann := { pre := nats [], cut := look [(7, [0, 1, 2, 3, 9, 10])], frz := fun i => match look [] i with | some l => l | none => [], fz := nats [], out := outOf [(0, [9])] (some [8]) }
noncomputable def T_spec_l9Many {R : Type} (k d : Nat) : List (Nat × (Bool × CF R)) := [(69, (false, (F_spec_l4Value k))), (39, (false, (F_spec_l9Many k d)))]
noncomputable abbrev h_spec_l9Many_7 : Shape := ⟨[(0, .sl true 3 (.int .i64)), (1, .sl true 3 (.int .i64)), (2, .int .i64), (3, .int .i64), (9, .int .i64), (10, .int .i64)], []⟩
noncomputable def lf_spec_l9Many_7 {R : Type} (k d : Nat) (n : Nat) (v : h_spec_l9Many_7.T) (K : Exit → St → Option R) : Option R := l_spec_l9Many_7 k (f_spec_l9Many k d) n v.1.1 v.1.2.1 v.1.2.2.1 v.1.2.2.2.1 v.1.2.2.2.2.1 v.1.2.2.2.2.2.1 (fun y0 => K (.exit 0) ⟨[(9, .s (.int .i64 y0))], []⟩)
noncomputable def L_spec_l9Many {R : Type} (k d : Nat) (c : Code) (s : St) (K : Exit → St → Option R) : Option R := cond (Nat.beq (firstReg c) 7) ((h_spec_l9Many_7.dec (cutAt A_spec_l9Many c s)).bind fun v => lf_spec_l9Many_7 k d k v K) (none)
theorem hT_spec_l9Many {R : Type} (k d : Nat) (hrec : Good tyE.P 39 false (F_spec_l9Many (R := R) k d)) : TabOk tyE.P (T_spec_l9Many (R := R) k d) := ⟨(good_spec_l4Value k), hrec, trivial⟩
noncomputable def b_spec_l9Many_7 : Code := nthLoop (bodyOf Try.f39) 0
theorem hs_spec_l9Many_7 {R : Type} (k d : Nat) (n : Nat) (K : Exit → St → Option R) : ∀ v, lf_spec_l9Many_7 k d (n + 1) v K = evk (look (T_spec_l9Many k d)) tyE A_spec_l9Many (Func.ntmps Try.f39) (drawn (look (T_spec_l9Many k d)) tyE A_spec_l9Many (nats []) (Func.ntmps Try.f39)) (L_spec_l9Many k d) b_spec_l9Many_7 (h_spec_l9Many_7.enc v) (loopK A_spec_l9Many b_spec_l9Many_7 h_spec_l9Many_7.dec (lf_spec_l9Many_7 k d) n K) := by
  rintro ⟨⟨x0, x1, x2, x3, x4, x5, _⟩, _⟩
  kernel_rfl
theorem lo_spec_l9Many_7 {R : Type} (k d : Nat) (hrec : Good tyE.P 39 false (F_spec_l9Many (R := R) k d)) : LoopOk tyE.P (Func.ntmps Try.f39) (L_spec_l9Many (R := R) k d) b_spec_l9Many_7 :=
  fn_loop tyE_ok (tab_ok (hT_spec_l9Many k d hrec)) A_spec_l9Many (nats []) (loops_nil (R := R) (by kernel_rfl)) h_spec_l9Many_7 (lf_spec_l9Many_7 k d) k (fun s K => by kernel_rfl) (fun v K => by kernel_rfl) fun n v K r h => hs_spec_l9Many_7 k d n K v ▸ h
theorem hg_spec_l9Many {R : Type} (k d : Nat) (K : List SV → List Ob → Option R) : ∀ v w, g_spec_l9Many k (d + 1) v w K = runF (look (T_spec_l9Many k d)) tyE A_spec_l9Many (nats []) (L_spec_l9Many k d) (Func.ntmps Try.f39) [.tmp 8] (bodyOf Try.f39) [.sl true 3 (.int .i64), .sl true 3 (.int .i64), .int .i64, .int .i64] [] [.int .i64] v w K := by
  rintro ⟨x0, x1, x2, x3, _⟩ _
  kernel_rfl
theorem good_spec_l9Many {R : Type} (k : Nat) : ∀ d, Good tyE.P 39 false (F_spec_l9Many (R := R) k d)
  | 0 => none_good (wrap_none _ _ fun v w K => by kernel_rfl)
  | d + 1 => fn_good tyE_ok (tab_ok (hT_spec_l9Many k d (good_spec_l9Many k d))) A_spec_l9Many (nats []) (fn := Try.f39) (c := bodyOf Try.f39) (rs := [.tmp 8]) (by kernel_rfl) (by kernel_rfl) (by kernel_rfl) (by kernel_rfl) (L := L_spec_l9Many k d) (loops_one (R := R) (by kernel_rfl) (lo_spec_l9Many_7 k d (good_spec_l9Many k d))) [.sl true 3 (.int .i64), .sl true 3 (.int .i64), .int .i64, .int .i64] [] [.int .i64] (g_spec_l9Many k (d + 1)) fun v w K r h => hg_spec_l9Many k d K v w ▸ h


/-! "loop.example/localglobal/spec.ValueMany" -/
noncomputable def f_spec_ValueMany {R : Type} (k : Nat) (a0 : List Int) (a1 : Int) (a2 : Int) (K : Int → Option R) : Option R :=
  f_spec_FormValid k a0 (fun r1 => cond (!(r1)) (K (-1)) (f_spec_l6In k a1 (-1000) 1000 (fun r2 => cond (!(r2)) (K (-1)) (f_spec_l6In k a2 1 6 (fun r3 => cond (!(r3)) (K (-1)) (f_spec_l9Many k k a0 [] a1 a2 (fun r4 => K r4)))))))


noncomputable def g_spec_ValueMany {R : Type} (k : Nat) (v : HT [.sl true 3 (.int .i64), .int .i64, .int .i64]) (w : HO []) (K : List SV → List Ob → Option R) : Option R := f_spec_ValueMany k v.1 v.2.1 v.2.2.1 (fun r0 => K [.int .i64 r0] [])
noncomputable def F_spec_ValueMany {R : Type} (k : Nat) : CF R := wrapF [.sl true 3 (.int .i64), .int .i64, .int .i64] [] (g_spec_ValueMany k)
noncomputable def A_spec_ValueMany : Ann := { pre := nats [], cut := look [], frz := fun i => match look [] i with | some l => l | none => [], fz := nats [], out := outOf [] (some [6]) }
noncomputable def T_spec_ValueMany {R : Type} (k : Nat) : List (Nat × (Bool × CF R)) := [(37, (false, (F_spec_FormValid k))), (38, (false, (F_spec_l6In k))), (39, (false, (F_spec_l9Many k k)))]
noncomputable def L_spec_ValueMany {R : Type} (k : Nat) (c : Code) (s : St) (K : Exit → St → Option R) : Option R := none
theorem hT_spec_ValueMany {R : Type} (k : Nat) : TabOk tyE.P (T_spec_ValueMany (R := R) k) := ⟨(good_spec_FormValid k), (good_spec_l6In k), (good_spec_l9Many k k), trivial⟩
theorem hg_spec_ValueMany {R : Type} (k : Nat) (K : List SV → List Ob → Option R) : ∀ v w, g_spec_ValueMany k v w K = runF (look (T_spec_ValueMany k)) tyE A_spec_ValueMany (nats []) (L_spec_ValueMany k) (Func.ntmps Try.f13) [.tmp 6] (bodyOf Try.f13) [.sl true 3 (.int .i64), .int .i64, .int .i64] [] [.int .i64] v w K := by
  rintro ⟨x0, x1, x2, _⟩ _
  kernel_rfl
theorem good_spec_ValueMany {R : Type} (k : Nat) : Good tyE.P 13 false (F_spec_ValueMany (R := R) k) :=
  fn_good tyE_ok (tab_ok (hT_spec_ValueMany k)) A_spec_ValueMany (nats []) (fn := Try.f13) (c := bodyOf Try.f13) (rs := [.tmp 6]) (by kernel_rfl) (by kernel_rfl) (by kernel_rfl) (by kernel_rfl) (L := L_spec_ValueMany k) (loops_nil (R := R) (by kernel_rfl)) [.sl true 3 (.int .i64), .int .i64, .int .i64] [] [.int .i64] (g_spec_ValueMany k) fun v w K r h => hg_spec_ValueMany k K v w ▸ h


/-! "loop.example/localglobal/impl.gcd" -/
noncomputable def l_impl_gcd_6 {R : Type} (k : Nat) : Nat → Int → Int → List Int → Int → Int → (Int → List Int → Int → Int → Option R) → Option R
  | 0, _, _, _, _, _, _ => none
  | n + 1, v6, v7, v8, v9, v10, K0 => cond (!decide (v7 = 0)) (cond (!decide (v7 = 0)) (l_impl_gcd_6 k n v7 (Int.tmod v6 v7) v8 v9 v10 K0) none) (K0 v6 v8 v9 v10)

noncomputable def l_impl_gcd_3 {R : Type} (k : Nat) : Nat → Int → List Int → Int → Int → (Int → Option R) → Option R
  | 0, _, _, _, _, _ => none
  | n + 1, v1, v2, v3, v4, K0 => cond (decide (v4 < v3)) (cond (decide (0 ≤ v4) && decide (v4 < ((v2).length : Int))) (f_impl_size k (List.getD v2 (Int.toNat v4) 0) (fun r5 => l_impl_gcd_6 k k v1 r5 v2 v3 v4 (fun y11 y12 y13 y14 => l_impl_gcd_3 k n y11 y12 y13 (IntKind.wrap .i64 (y14 + 1)) K0))) none) (K0 v1)

noncomputable def f_impl_gcd {R : Type} (k : Nat) (a0 : List Int) (K : Int → Option R) : Option R :=
  l_impl_gcd_3 k k 0 a0 (a0.length : Int) 0 (fun y15 => K y15)


noncomputable def g_impl_gcd {R : Type} (k : Nat) (v : HT [.sl true 3 (.int .i64)]) (w : HO []) (K : List SV → List Ob → Option R) : Option R := f_impl_gcd k v.1 (fun r0 => K [.int .i64 r0] [])
noncomputable def F_impl_gcd {R : Type} (k : Nat) : CF R := wrapF [.sl true 3 (.int .i64)] [] (g_impl_gcd k)
noncomputable def A_impl_gcd : Ann := { pre := nats [], cut := look [(3, [3, 6, 7, 8]), (6, [3, 5, 6, 7, 8])], frz := fun i => match look [] i with | some l => l | none => [], fz := nats [], out := outOf [(0, [3]), (2, [3, 6, 7, 8])] (some [2]) }
noncomputable def T_impl_gcd {R : Type} (k : Nat) : List (Nat × (Bool × CF R)) := [(48, (false, (F_impl_size k)))]
noncomputable abbrev h_impl_gcd_3 : Shape := ⟨[(3, .int .i64), (6, .sl true 3 (.int .i64)), (7, .int .i64), (8, .int .i64)], []⟩
noncomputable def lf_impl_gcd_3 {R : Type} (k : Nat) (n : Nat) (v : h_impl_gcd_3.T) (K : Exit → St → Option R) : Option R := l_impl_gcd_3 k n v.1.1 v.1.2.1 v.1.2.2.1 v.1.2.2.2.1 (fun y0 => K (.exit 0) ⟨[(3, .s (.int .i64 y0))], []⟩)
noncomputable abbrev h_impl_gcd_6 : Shape := ⟨[(3, .int .i64), (5, .int .i64), (6, .sl true 3 (.int .i64)), (7, .int .i64), (8, .int .i64)], []⟩
noncomputable def lf_impl_gcd_6 {R : Type} (k : Nat) (n : Nat) (v : h_impl_gcd_6.T) (K : Exit → St → Option R) : Option R := l_impl_gcd_6 k n v.1.1 v.1.2.1 v.1.2.2.1 v.1.2.2.2.1 v.1.2.2.2.2.1 (fun y0 y1 y2 y3 => K (.exit 2) ⟨[(3, .s (.int .i64 y0)), (6, .s (.sl true 3 (.int .i64) y1)), (7, .s (.int .i64 y2)), (8, .s (.int .i64 y3))], []⟩)
noncomputable def L_impl_gcd {R : Type} (k : Nat) (c : Code) (s : St) (K : Exit → St → Option R) : Option R := cond (Nat.beq (firstReg c) 6) ((h_impl_gcd_6.dec (cutAt A_impl_gcd c s)).bind fun v => lf_impl_gcd_6 k k v K) (cond (Nat.beq (firstReg c) 3) ((h_impl_gcd_3.dec (cutAt A_impl_gcd c s)).bind fun v => lf_impl_gcd_3 k k v K) (none))
theorem hT_impl_gcd {R : Type} (k : Nat) : TabOk tyE.P (T_impl_gcd (R := R) k) := ⟨(good_impl_size k), trivial⟩
noncomputable def b_impl_gcd_3 : Code := nthLoop (bodyOf Try.f41) 0
noncomputable def b_impl_gcd_6 : Code := nthLoop (b_impl_gcd_3) 0
theorem hs_impl_gcd_6 {R : Type} (k : Nat) (n : Nat) (K : Exit → St → Option R) : ∀ v, lf_impl_gcd_6 k (n + 1) v K = evk (look (T_impl_gcd k)) tyE A_impl_gcd (Func.ntmps Try.f41) (drawn (look (T_impl_gcd k)) tyE A_impl_gcd (nats []) (Func.ntmps Try.f41)) (L_impl_gcd k) b_impl_gcd_6 (h_impl_gcd_6.enc v) (loopK A_impl_gcd b_impl_gcd_6 h_impl_gcd_6.dec (lf_impl_gcd_6 k) n K) := by
  rintro ⟨⟨x0, x1, x2, x3, x4, _⟩, _⟩
  kernel_rfl
theorem lo_impl_gcd_6 {R : Type} (k : Nat) : LoopOk tyE.P (Func.ntmps Try.f41) (L_impl_gcd (R := R) k) b_impl_gcd_6 :=
  fn_loop tyE_ok (tab_ok (hT_impl_gcd k)) A_impl_gcd (nats []) (loops_nil (R := R) (by kernel_rfl)) h_impl_gcd_6 (lf_impl_gcd_6 k) k (fun s K => by kernel_rfl) (fun v K => by kernel_rfl) fun n v K r h => hs_impl_gcd_6 k n K v ▸ h
theorem hs_impl_gcd_3 {R : Type} (k : Nat) (n : Nat) (K : Exit → St → Option R) : ∀ v, lf_impl_gcd_3 k (n + 1) v K = evk (look (T_impl_gcd k)) tyE A_impl_gcd (Func.ntmps Try.f41) (drawn (look (T_impl_gcd k)) tyE A_impl_gcd (nats []) (Func.ntmps Try.f41)) (L_impl_gcd k) b_impl_gcd_3 (h_impl_gcd_3.enc v) (loopK A_impl_gcd b_impl_gcd_3 h_impl_gcd_3.dec (lf_impl_gcd_3 k) n K) := by
  rintro ⟨⟨x0, x1, x2, x3, _⟩, _⟩
  kernel_rfl
theorem lo_impl_gcd_3 {R : Type} (k : Nat) : LoopOk tyE.P (Func.ntmps Try.f41) (L_impl_gcd (R := R) k) b_impl_gcd_3 :=
  fn_loop tyE_ok (tab_ok (hT_impl_gcd k)) A_impl_gcd (nats []) (loops_one (R := R) (by kernel_rfl) (lo_impl_gcd_6 k)) h_impl_gcd_3 (lf_impl_gcd_3 k) k (fun s K => by kernel_rfl) (fun v K => by kernel_rfl) fun n v K r h => hs_impl_gcd_3 k n K v ▸ h
theorem hg_impl_gcd {R : Type} (k : Nat) (K : List SV → List Ob → Option R) : ∀ v w, g_impl_gcd k v w K = runF (look (T_impl_gcd k)) tyE A_impl_gcd (nats []) (L_impl_gcd k) (Func.ntmps Try.f41) [.tmp 2] (bodyOf Try.f41) [.sl true 3 (.int .i64)] [] [.int .i64] v w K := by
  rintro ⟨x0, _⟩ _
  kernel_rfl
theorem good_impl_gcd {R : Type} (k : Nat) : Good tyE.P 41 false (F_impl_gcd (R := R) k) :=
  fn_good tyE_ok (tab_ok (hT_impl_gcd k)) A_impl_gcd (nats []) (fn := Try.f41) (c := bodyOf Try.f41) (rs := [.tmp 2]) (by kernel_rfl) (by kernel_rfl) (by kernel_rfl) (by kernel_rfl) (L := L_impl_gcd k) (loops_one (R := R) (by kernel_rfl) (lo_impl_gcd_3 k)) [.sl true 3 (.int .i64)] [] [.int .i64] (g_impl_gcd k) fun v w K r h => hg_impl_gcd k K v w ▸ h


/-! "loop.example/localglobal/impl.plain" -/
noncomputable def l_impl_plain_3 {R : Type} (k : Nat) : Nat → List Int → Int → List Int → Int → Int → (List Int → Int → Option R) → Option R
  | 0, _, _, _, _, _, _ => none
  | n + 1, v2, v3, v4, v5, v6, K0 => cond (decide (v6 < v5)) (cond (decide (0 ≤ v6) && decide (v6 < ((v4).length : Int))) (cond (!decide ((List.getD v4 (Int.toNat v6) 0) = 0)) (cond (decide ((List.getD v4 (Int.toNat v6) 0) < 0)) (K0 v2 (IntKind.wrap .i64 (0 - v3))) (K0 v2 v3)) (l_impl_plain_3 k n v2 v3 v4 v5 (IntKind.wrap .i64 (v6 + 1)) K0)) none) (K0 v2 v3)

noncomputable def l_impl_plain_11 {R : Type} (k : Nat) : Nat → Int → List Int → Int → Int → List Int → (List Int → Option R) → Option R
  | 0, _, _, _, _, _, _ => none
  | n + 1, v9, v10, v11, v12, v13, K0 => cond (decide (v12 < v11)) (cond (decide (0 ≤ v12) && decide (v12 < ((v10).length : Int))) (cond (!decide (v9 = 0)) (cond (Nat.ble (v13.length + 1) LIM) (l_impl_plain_11 k n v9 v10 v11 (IntKind.wrap .i64 (v12 + 1)) (v13 ++ [(IntKind.wrap .i64 (Int.tdiv (List.getD v10 (Int.toNat v12) 0) v9))]) K0) none) none) none) (K0 v13)

noncomputable def f_impl_plain {R : Type} (k : Nat) (a0 : List Int) (K : List Int → Option R) : Option R :=
  f_impl_gcd k a0 (fun r1 => l_impl_plain_3 k k a0 r1 a0 (a0.length : Int) 0 (fun y7 y8 => l_impl_plain_11 k k y8 y7 (y7.length : Int) 0 [] (fun y14 => K y14)))


noncomputable def g_impl_plain {R : Type} (k : Nat) (v : HT [.sl true 3 (.int .i64)]) (w : HO []) (K : List SV → List Ob → Option R) : Option R := f_impl_plain k v.1 (fun r0 => K [.sl false 3 (.int .i64) r0] [])
noncomputable def F_impl_plain {R : Type} (k : Nat) : CF R := wrapF [.sl true 3 (.int .i64)] [] (g_impl_plain k)
noncomputable def A_impl_plain : Ann := { pre := nats [], cut := look [(3, [0, 3, 11, 12, 13]), (11, [3, 6, 25, 26, 27])], frz := fun i => match look [] i with | some l => l | none => [], fz := nats [], out := outOf [(0, [0, 3]), (2, [6])] (some [2]) }
noncomputable def T_impl_plain {R : Type} (k : Nat) : List (Nat × (Bool × CF R)) := [(41, (false, (F_impl_gcd k)))]
noncomputable abbrev h_impl_plain_11 : Shape := ⟨[(3, .int .i64), (6, .slo 1024), (25, .sl true 3 (.int .i64)), (26, .int .i64), (27, .int .i64)], [(1024, .arr 3 (.int .i64))]⟩
noncomputable def lf_impl_plain_11 {R : Type} (k : Nat) (n : Nat) (v : h_impl_plain_11.T) (K : Exit → St → Option R) : Option R := l_impl_plain_11 k n v.1.1 v.1.2.2.1 v.1.2.2.2.1 v.1.2.2.2.2.1 v.2.1 (fun y0 => K (.exit 2) ⟨[(6, .s (.slo 1024))], [(1024, .arr 3 (.int .i64) y0)]⟩)
noncomputable abbrev h_impl_plain_3 : Shape := ⟨[(0, .sl true 3 (.int .i64)), (3, .int .i64), (11, .sl true 3 (.int .i64)), (12, .int .i64), (13, .int .i64)], []⟩
noncomputable def lf_impl_plain_3 {R : Type} (k : Nat) (n : Nat) (v : h_impl_plain_3.T) (K : Exit → St → Option R) : Option R := l_impl_plain_3 k n v.1.1 v.1.2.1 v.1.2.2.1 v.1.2.2.2.1 v.1.2.2.2.2.1 (fun y0 y1 => K (.exit 0) ⟨[(0, .s (.sl true 3 (.int .i64) y0)), (3, .s (.int .i64 y1))], []⟩)
noncomputable def L_impl_plain {R : Type} (k : Nat) (c : Code) (s : St) (K : Exit → St → Option R) : Option R := cond (Nat.beq (firstReg c) 3) ((h_impl_plain_3.dec (cutAt A_impl_plain c s)).bind fun v => lf_impl_plain_3 k k v K) (cond (Nat.beq (firstReg c) 11) ((h_impl_plain_11.dec (cutAt A_impl_plain c s)).bind fun v => lf_impl_plain_11 k k v K) (none))
theorem hT_impl_plain {R : Type} (k : Nat) : TabOk tyE.P (T_impl_plain (R := R) k) := ⟨(good_impl_gcd k), trivial⟩
noncomputable def b_impl_plain_3 : Code := nthLoop (bodyOf Try.f43) 0
theorem hs_impl_plain_3 {R : Type} (k : Nat) (n : Nat) (K : Exit → St → Option R) : ∀ v, lf_impl_plain_3 k (n + 1) v K = evk (look (T_impl_plain k)) tyE A_impl_plain (Func.ntmps Try.f43) (drawn (look (T_impl_plain k)) tyE A_impl_plain (nats []) (Func.ntmps Try.f43)) (L_impl_plain k) b_impl_plain_3 (h_impl_plain_3.enc v) (loopK A_impl_plain b_impl_plain_3 h_impl_plain_3.dec (lf_impl_plain_3 k) n K) := by
  rintro ⟨⟨x0, x1, x2, x3, x4, _⟩, _⟩
  kernel_rfl
theorem lo_impl_plain_3 {R : Type} (k : Nat) : LoopOk tyE.P (Func.ntmps Try.f43) (L_impl_plain (R := R) k) b_impl_plain_3 :=
  fn_loop tyE_ok (tab_ok (hT_impl_plain k)) A_impl_plain (nats []) (loops_nil (R := R) (by kernel_rfl)) h_impl_plain_3 (lf_impl_plain_3 k) k (fun s K => by kernel_rfl) (fun v K => by kernel_rfl) fun n v K r h => hs_impl_plain_3 k n K v ▸ h
noncomputable def b_impl_plain_11 : Code := nthLoop (bodyOf Try.f43) 1
theorem hs_impl_plain_11 {R : Type} (k : Nat) (n : Nat) (K : Exit → St → Option R) : ∀ v, lf_impl_plain_11 k (n + 1) v K = evk (look (T_impl_plain k)) tyE A_impl_plain (Func.ntmps Try.f43) (drawn (look (T_impl_plain k)) tyE A_impl_plain (nats []) (Func.ntmps Try.f43)) (L_impl_plain k) b_impl_plain_11 (h_impl_plain_11.enc v) (loopK A_impl_plain b_impl_plain_11 h_impl_plain_11.dec (lf_impl_plain_11 k) n K) := by
  rintro ⟨⟨x0, _, x1, x2, x3, _⟩, ⟨x4, _⟩⟩
  kernel_rfl
theorem lo_impl_plain_11 {R : Type} (k : Nat) : LoopOk tyE.P (Func.ntmps Try.f43) (L_impl_plain (R := R) k) b_impl_plain_11 :=
  fn_loop tyE_ok (tab_ok (hT_impl_plain k)) A_impl_plain (nats []) (loops_nil (R := R) (by kernel_rfl)) h_impl_plain_11 (lf_impl_plain_11 k) k (fun s K => by kernel_rfl) (fun v K => by kernel_rfl) fun n v K r h => hs_impl_plain_11 k n K v ▸ h
theorem hg_impl_plain {R : Type} (k : Nat) (K : List SV → List Ob → Option R) : ∀ v w, g_impl_plain k v w K = runF (look (T_impl_plain k)) tyE A_impl_plain (nats []) (L_impl_plain k) (Func.ntmps Try.f43) [.tmp 2] (bodyOf Try.f43) [.sl true 3 (.int .i64)] [] [.sl false 3 (.int .i64)] v w K := by
  rintro ⟨x0, _⟩ _
  kernel_rfl
theorem good_impl_plain {R : Type} (k : Nat) : Good tyE.P 43 false (F_impl_plain (R := R) k) :=
  fn_good tyE_ok (tab_ok (hT_impl_plain k)) A_impl_plain (nats []) (fn := Try.f43) (c := bodyOf Try.f43) (rs := [.tmp 2]) (by kernel_rfl) (by kernel_rfl) (by kernel_rfl) (by kernel_rfl) (L := L_impl_plain k) (loops_two (R := R) (by kernel_rfl) (lo_impl_plain_3 k) (lo_impl_plain_11 k)) [.sl true 3 (.int .i64)] [] [.sl false 3 (.int .i64)] (g_impl_plain k) fun v w K r h => hg_impl_plain k K v w ▸ h


/-! "slices.Equal[[]int,int]" -/
noncomputable def l_slices_Equal_4 {R : Type} (k : Nat) : Nat → List Int → List Int → Int → Int → (Bool → Option R) → (Option R) → Option R
  | 0, _, _, _, _, _, _ => none
  | n + 1, v1, v2, v3, v4, K0, K1 => cond (decide (v4 < v3)) (cond (decide (0 ≤ v4) && decide (v4 < ((v1).length : Int))) (cond (decide (0 ≤ v4) && decide (v4 < ((v2).length : Int))) (cond (!decide ((List.getD v1 (Int.toNat v4) 0) = (List.getD v2 (Int.toNat v4) 0))) (K0 false) (l_slices_Equal_4 k n v1 v2 v3 (IntKind.wrap .i64 (v4 + 1)) K0 K1)) none) none) (K1)

noncomputable def f_slices_Equal {R : Type} (k : Nat) (a0 : List Int) (a1 : List Int) (K : Bool → Option R) : Option R :=
  cond (!decide ((a0.length : Int) = (a1.length : Int))) (K false) (l_slices_Equal_4 k k a0 a1 (a0.length : Int) 0 (fun y5 => K y5) (K true))


noncomputable def g_slices_Equal {R : Type} (k : Nat) (v : HT [.sl true 3 (.int .i64), .sl true 3 (.int .i64)]) (w : HO []) (K : List SV → List Ob → Option R) : Option R := f_slices_Equal k v.1 v.2.1 (fun r0 => K [.bool r0] [])
noncomputable def F_slices_Equal {R : Type} (k : Nat) : CF R := wrapF [.sl true 3 (.int .i64), .sl true 3 (.int .i64)] [] (g_slices_Equal k)
noncomputable def A_slices_Equal : Ann := { pre := nats [], cut := look [(4, [0, 1, 12, 13])], frz := fun i => match look [] i with | some l => l | none => [], fz := nats [], out := outOf [(0, [])] (some [4]) }
noncomputable def T_slices_Equal {R : Type} (k : Nat) : List (Nat × (Bool × CF R)) := []
noncomputable abbrev h_slices_Equal_4 : Shape := ⟨[(0, .sl true 3 (.int .i64)), (1, .sl true 3 (.int .i64)), (12, .int .i64), (13, .int .i64)], []⟩
noncomputable def lf_slices_Equal_4 {R : Type} (k : Nat) (n : Nat) (v : h_slices_Equal_4.T) (K : Exit → St → Option R) : Option R := l_slices_Equal_4 k n v.1.1 v.1.2.1 v.1.2.2.1 v.1.2.2.2.1 (fun y0 => K (.ret) ⟨[(4, .s (.bool y0))], []⟩) (K (.exit 0) ⟨[], []⟩)
noncomputable def L_slices_Equal {R : Type} (k : Nat) (c : Code) (s : St) (K : Exit → St → Option R) : Option R := cond (Nat.beq (firstReg c) 4) ((h_slices_Equal_4.dec (cutAt A_slices_Equal c s)).bind fun v => lf_slices_Equal_4 k k v K) (none)
theorem hT_slices_Equal {R : Type} (k : Nat) : TabOk tyE.P (T_slices_Equal (R := R) k) := trivial
noncomputable def b_slices_Equal_4 : Code := nthLoop (bodyOf Try.f42) 0
theorem hs_slices_Equal_4 {R : Type} (k : Nat) (n : Nat) (K : Exit → St → Option R) : ∀ v, lf_slices_Equal_4 k (n + 1) v K = evk (look (T_slices_Equal k)) tyE A_slices_Equal (Func.ntmps Try.f42) (drawn (look (T_slices_Equal k)) tyE A_slices_Equal (nats []) (Func.ntmps Try.f42)) (L_slices_Equal k) b_slices_Equal_4 (h_slices_Equal_4.enc v) (loopK A_slices_Equal b_slices_Equal_4 h_slices_Equal_4.dec (lf_slices_Equal_4 k) n K) := by
  rintro ⟨⟨x0, x1, x2, x3, _⟩, _⟩
  kernel_rfl
theorem lo_slices_Equal_4 {R : Type} (k : Nat) : LoopOk tyE.P (Func.ntmps Try.f42) (L_slices_Equal (R := R) k) b_slices_Equal_4 :=
  fn_loop tyE_ok (tab_ok (hT_slices_Equal k)) A_slices_Equal (nats []) (loops_nil (R := R) (by kernel_rfl)) h_slices_Equal_4 (lf_slices_Equal_4 k) k (fun s K => by kernel_rfl) (fun v K => by kernel_rfl) fun n v K r h => hs_slices_Equal_4 k n K v ▸ h
theorem hg_slices_Equal {R : Type} (k : Nat) (K : List SV → List Ob → Option R) : ∀ v w, g_slices_Equal k v w K = runF (look (T_slices_Equal k)) tyE A_slices_Equal (nats []) (L_slices_Equal k) (Func.ntmps Try.f42) [.tmp 4] (bodyOf Try.f42) [.sl true 3 (.int .i64), .sl true 3 (.int .i64)] [] [.bool] v w K := by
  rintro ⟨x0, x1, _⟩ _
  kernel_rfl
theorem good_slices_Equal {R : Type} (k : Nat) : Good tyE.P 42 false (F_slices_Equal (R := R) k) :=
  fn_good tyE_ok (tab_ok (hT_slices_Equal k)) A_slices_Equal (nats []) (fn := Try.f42) (c := bodyOf Try.f42) (rs := [.tmp 4]) (by kernel_rfl) (by kernel_rfl) (by kernel_rfl) (by kernel_rfl) (L := L_slices_Equal k) (loops_one (R := R) (by kernel_rfl) (lo_slices_Equal_4 k)) [.sl true 3 (.int .i64), .sl true 3 (.int .i64)] [] [.bool] (g_slices_Equal k) fun v w K r h => hg_slices_Equal k K v w ▸ h


/-! "loop.example/localglobal/impl.ZeroMany$1" -/
noncomputable def f_impl_ZeroMany_1 {R : Type} (k : Nat) (a0 : List Int) (c0_0 : List Int) (c1_0 : Int) (K : List Int → Int → Option R) : Option R :=
  f_impl_pair k c0_0 a0 a0 (fun r1 => cond (decide (r1 = 0)) (f_impl_gcd k a0 (fun r2 => cond (!decide (r2 = 0)) (f_impl_plain k a0 (fun r3 => f_slices_Equal k r3 a0 (fun r4 => cond (r4) (K c0_0 (IntKind.wrap .i64 (c1_0 + 1))) (K c0_0 c1_0)))) (K c0_0 c1_0))) (K c0_0 c1_0))


noncomputable def g_impl_ZeroMany_1 {R : Type} (k : Nat) (v : HT [.sl true 3 (.int .i64), .ref 0 0, .ref 1 0]) (w : HO [.cells 26 [.sl false 3 (.int .i64)], .cells 3 [.int .i64]]) (K : List SV → List Ob → Option R) : Option R := f_impl_ZeroMany_1 k v.1 w.1.1 w.2.1.1 (fun r0 r1 => K [] [.cells 26 [.sl false 3 (.int .i64) r0], .cells 3 [.int .i64 r1]])
noncomputable def F_impl_ZeroMany_1 {R : Type} (k : Nat) : CF R := wrapF [.sl true 3 (.int .i64), .ref 0 0, .ref 1 0] [.cells 26 [.sl false 3 (.int .i64)], .cells 3 [.int .i64]] (g_impl_ZeroMany_1 k)
noncomputable def A_impl_ZeroMany_1 : Ann := { pre := nats [], cut := look [], frz := fun i => match look [] i with | some l => l | none => [], fz := nats [], out := outOf [] (some []) }
noncomputable def T_impl_ZeroMany_1 {R : Type} (k : Nat) : List (Nat × (Bool × CF R)) := [(41, (false, (F_impl_gcd k))), (34, (false, (F_impl_pair k))), (43, (false, (F_impl_plain k))), (42, (false, (F_slices_Equal k)))]
noncomputable def L_impl_ZeroMany_1 {R : Type} (k : Nat) (c : Code) (s : St) (K : Exit → St → Option R) : Option R := none
theorem hT_impl_ZeroMany_1 {R : Type} (k : Nat) : TabOk tyE.P (T_impl_ZeroMany_1 (R := R) k) := ⟨(good_impl_gcd k), (good_impl_pair k), (good_impl_plain k), (good_slices_Equal k), trivial⟩
theorem hg_impl_ZeroMany_1 {R : Type} (k : Nat) (K : List SV → List Ob → Option R) : ∀ v w, g_impl_ZeroMany_1 k v w K = runF (look (T_impl_ZeroMany_1 k)) tyE A_impl_ZeroMany_1 (nats []) (L_impl_ZeroMany_1 k) (Func.ntmps Try.f40) [] (bodyOf Try.f40) [.sl true 3 (.int .i64), .ref 0 0, .ref 1 0] [.cells 26 [.sl false 3 (.int .i64)], .cells 3 [.int .i64]] [] v w K := by
  rintro ⟨x0, x1, x2, _⟩ ⟨⟨z0_0, _⟩, ⟨z1_0, _⟩, _⟩
  kernel_rfl
theorem good_impl_ZeroMany_1 {R : Type} (k : Nat) : Good tyE.P 40 false (F_impl_ZeroMany_1 (R := R) k) :=
  fn_good tyE_ok (tab_ok (hT_impl_ZeroMany_1 k)) A_impl_ZeroMany_1 (nats []) (fn := Try.f40) (c := bodyOf Try.f40) (rs := []) (by kernel_rfl) (by kernel_rfl) (by kernel_rfl) (by kernel_rfl) (L := L_impl_ZeroMany_1 k) (loops_nil (R := R) (by kernel_rfl)) [.sl true 3 (.int .i64), .ref 0 0, .ref 1 0] [.cells 26 [.sl false 3 (.int .i64)], .cells 3 [.int .i64]] [] (g_impl_ZeroMany_1 k) fun v w K r h => hg_impl_ZeroMany_1 k K v w ▸ h


/-! "loop.example/localglobal/impl.vectors$1" -/
noncomputable def l_impl_vectors_1a_3 {R : Type} (k : Nat) (rc : Int → Int → Int → List Int → Int → List Int → (Int → Int → List Int → Int → List Int → Option R) → Option R) : Nat → Int → List Int → Int → Int → List Int → Int → (List Int → Int → Int → List Int → Int → Option R) → Option R
  | 0, _, _, _, _, _, _, _ => none
  | n + 1, v3, v4, v5, v6, v7, v8, K0 => cond (decide (0 ≤ v3) && decide (v3 < ((v4).length : Int))) (cond (decide ((List.getD v4 (Int.toNat v3) 0) ≤ v6)) (rc (IntKind.wrap .i64 (v3 + 1)) v5 v6 v7 v8 v4 (fun r9 r10 r11 r12 r13 => cond (decide (0 ≤ v3) && decide (v3 < ((r13).length : Int))) (cond (decide (0 ≤ v3) && decide (v3 < ((r13).length : Int))) (l_impl_vectors_1a_3 k rc n v3 (List.set r13 (Int.toNat v3) (IntKind.wrap .i64 ((List.getD r13 (Int.toNat v3) 0) + 1))) r9 r10 r11 r12 K0) none) none)) (K0 v4 v5 v6 v7 v8)) none

noncomputable def f_impl_vectors_1a {R : Type} (k : Nat) : Nat → Int → Int → Int → List Int → Int → List Int → (Int → Int → List Int → Int → List Int → Option R) → Option R
  | 0, _, _, _, _, _, _, _ => none
  | d + 1, a0, c0_0, c3_0, c5_0, c6_0, c7, K =>
    let rc := f_impl_vectors_1a k d
    cond (decide (a0 = c0_0)) (f_impl_ZeroMany_1 k c7 c5_0 c6_0 (fun r1 r2 => K c0_0 c3_0 r1 r2 c7)) (cond (decide (0 ≤ a0) && decide (a0 < ((c7).length : Int))) (l_impl_vectors_1a_3 k rc k a0 (List.set c7 (Int.toNat a0) (IntKind.wrap .i64 (0 - c3_0))) c0_0 c3_0 c5_0 c6_0 (fun y14 y15 y16 y17 y18 => K y15 y16 y17 y18 y14)) none)


noncomputable def g_impl_vectors_1a {R : Type} (k d : Nat) (v : HT [.int .i64, .ref 0 0, .ref 1 0, .ref 2 0, .ref 3 0, .ref 4 0]) (w : HO [.cells 3 [.int .i64], .cells 49 [.clo 40 [5, 6]], .cells 26 [.slo 7], .cells 3 [.int .i64], .cells 68 [.clo 68 [0, 1, 2, 3, 4]], .cells 26 [.sl false 3 (.int .i64)], .cells 3 [.int .i64], .arr 3 (.int .i64)]) (K : List SV → List Ob → Option R) : Option R := f_impl_vectors_1a k d v.1 w.1.1 w.2.2.2.1.1 w.2.2.2.2.2.1.1 w.2.2.2.2.2.2.1.1 w.2.2.2.2.2.2.2.1 (fun r0 r1 r2 r3 r4 => K [] [.cells 3 [.int .i64 r0], .cells 49 [.clo 40 [5, 6]], .cells 26 [.slo 7], .cells 3 [.int .i64 r1], .cells 68 [.clo 68 [0, 1, 2, 3, 4]], .cells 26 [.sl false 3 (.int .i64) r2], .cells 3 [.int .i64 r3], .arr 3 (.int .i64) r4])
noncomputable def F_impl_vectors_1a {R : Type} (k d : Nat) : CF R := wrapF [.int .i64, .ref 0 0, .ref 1 0, .ref 2 0, .ref 3 0, .ref 4 0] [.cells 3 [.int .i64], .cells 49 [.clo 40 [5, 6]], .cells 26 [.slo 7], .cells 3 [.int .i64], .cells 68 [.clo 68 [0, 1, 2, 3, 4]], .cells 26 [.sl false 3 (.int .i64)], .cells 3 [.int .i64], .arr 3 (.int .i64)] (g_impl_vectors_1a k d)
noncomputable def A_impl_vectors_1a : Ann := { pre := nats [], cut := look [(3, [0, 3, 4, 5])], frz := fun i => match look [] i with | some l => l | none => [], fz := nats [], out := outOf [(0, [])] (some []) }
noncomputable def T_impl_vectors_1a {R : Type} (k d : Nat) : List (Nat × (Bool × CF R)) := [(40, (false, (F_impl_ZeroMany_1 k))), (68, (false, (F_impl_vectors_1a k d)))]
noncomputable abbrev h_impl_vectors_1a_3 : Shape := ⟨[(0, .int .i64), (3, .ref 2 0), (4, .ref 3 0), (5, .ref 4 0)], [(7, .arr 3 (.int .i64)), (0, .cells 3 [.int .i64]), (1, .cells 49 [.clo 40 [5, 6]]), (2, .cells 26 [.slo 7]), (3, .cells 3 [.int .i64]), (4, .cells 68 [.clo 68 [0, 1, 2, 3, 4]]), (5, .cells 26 [.sl false 3 (.int .i64)]), (6, .cells 3 [.int .i64])]⟩
noncomputable def lf_impl_vectors_1a_3 {R : Type} (k d : Nat) (n : Nat) (v : h_impl_vectors_1a_3.T) (K : Exit → St → Option R) : Option R := l_impl_vectors_1a_3 k (f_impl_vectors_1a k d) n v.1.1 v.2.1 v.2.2.1.1 v.2.2.2.2.2.1.1 v.2.2.2.2.2.2.2.1.1 v.2.2.2.2.2.2.2.2.1.1 (fun y0 y1 y2 y3 y4 => K (.exit 0) ⟨[], [(7, .arr 3 (.int .i64) y0), (0, .cells 3 [.int .i64 y1]), (1, .cells 49 [.clo 40 [5, 6]]), (2, .cells 26 [.slo 7]), (3, .cells 3 [.int .i64 y2]), (4, .cells 68 [.clo 68 [0, 1, 2, 3, 4]]), (5, .cells 26 [.sl false 3 (.int .i64) y3]), (6, .cells 3 [.int .i64 y4])]⟩)
noncomputable def L_impl_vectors_1a {R : Type} (k d : Nat) (c : Code) (s : St) (K : Exit → St → Option R) : Option R := cond (Nat.beq (firstReg c) 3) ((h_impl_vectors_1a_3.dec (cutAt A_impl_vectors_1a c s)).bind fun v => lf_impl_vectors_1a_3 k d k v K) (none)
theorem hT_impl_vectors_1a {R : Type} (k d : Nat) (hrec : Good tyE.P 68 false (F_impl_vectors_1a (R := R) k d)) : TabOk tyE.P (T_impl_vectors_1a (R := R) k d) := ⟨(good_impl_ZeroMany_1 k), hrec, trivial⟩
noncomputable def b_impl_vectors_1a_3 : Code := nthLoop (bodyOf Try.f68) 0
theorem hs_impl_vectors_1a_3 {R : Type} (k d : Nat) (n : Nat) (K : Exit → St → Option R) : ∀ v, lf_impl_vectors_1a_3 k d (n + 1) v K = evk (look (T_impl_vectors_1a k d)) tyE A_impl_vectors_1a (Func.ntmps Try.f68) (drawn (look (T_impl_vectors_1a k d)) tyE A_impl_vectors_1a (nats []) (Func.ntmps Try.f68)) (L_impl_vectors_1a k d) b_impl_vectors_1a_3 (h_impl_vectors_1a_3.enc v) (loopK A_impl_vectors_1a b_impl_vectors_1a_3 h_impl_vectors_1a_3.dec (lf_impl_vectors_1a_3 k d) n K) := by
  rintro ⟨⟨x0, _, _, _, _⟩, ⟨x1, ⟨x2, _⟩, ⟨_, _⟩, ⟨_, _⟩, ⟨x3, _⟩, ⟨_, _⟩, ⟨x4, _⟩, ⟨x5, _⟩, _⟩⟩
  kernel_rfl
theorem lo_impl_vectors_1a_3 {R : Type} (k d : Nat) (hrec : Good tyE.P 68 false (F_impl_vectors_1a (R := R) k d)) : LoopOk tyE.P (Func.ntmps Try.f68) (L_impl_vectors_1a (R := R) k d) b_impl_vectors_1a_3 :=
  fn_loop tyE_ok (tab_ok (hT_impl_vectors_1a k d hrec)) A_impl_vectors_1a (nats []) (loops_nil (R := R) (by kernel_rfl)) h_impl_vectors_1a_3 (lf_impl_vectors_1a_3 k d) k (fun s K => by kernel_rfl) (fun v K => by kernel_rfl) fun n v K r h => hs_impl_vectors_1a_3 k d n K v ▸ h
theorem hg_impl_vectors_1a {R : Type} (k d : Nat) (K : List SV → List Ob → Option R) : ∀ v w, g_impl_vectors_1a k (d + 1) v w K = runF (look (T_impl_vectors_1a k d)) tyE A_impl_vectors_1a (nats []) (L_impl_vectors_1a k d) (Func.ntmps Try.f68) [] (bodyOf Try.f68) [.int .i64, .ref 0 0, .ref 1 0, .ref 2 0, .ref 3 0, .ref 4 0] [.cells 3 [.int .i64], .cells 49 [.clo 40 [5, 6]], .cells 26 [.slo 7], .cells 3 [.int .i64], .cells 68 [.clo 68 [0, 1, 2, 3, 4]], .cells 26 [.sl false 3 (.int .i64)], .cells 3 [.int .i64], .arr 3 (.int .i64)] [] v w K := by
  rintro ⟨x0, x1, x2, x3, x4, x5, _⟩ ⟨⟨z0_0, _⟩, ⟨z1_0, _⟩, ⟨z2_0, _⟩, ⟨z3_0, _⟩, ⟨z4_0, _⟩, ⟨z5_0, _⟩, ⟨z6_0, _⟩, z7, _⟩
  kernel_rfl
theorem good_impl_vectors_1a {R : Type} (k : Nat) : ∀ d, Good tyE.P 68 false (F_impl_vectors_1a (R := R) k d)
  | 0 => none_good (wrap_none _ _ fun v w K => by kernel_rfl)
  | d + 1 => fn_good tyE_ok (tab_ok (hT_impl_vectors_1a k d (good_impl_vectors_1a k d))) A_impl_vectors_1a (nats []) (fn := Try.f68) (c := bodyOf Try.f68) (rs := []) (by kernel_rfl) (by kernel_rfl) (by kernel_rfl) (by kernel_rfl) (L := L_impl_vectors_1a k d) (loops_one (R := R) (by kernel_rfl) (lo_impl_vectors_1a_3 k d (good_impl_vectors_1a k d))) [.int .i64, .ref 0 0, .ref 1 0, .ref 2 0, .ref 3 0, .ref 4 0] [.cells 3 [.int .i64], .cells 49 [.clo 40 [5, 6]], .cells 26 [.slo 7], .cells 3 [.int .i64], .cells 68 [.clo 68 [0, 1, 2, 3, 4]], .cells 26 [.sl false 3 (.int .i64)], .cells 3 [.int .i64], .arr 3 (.int .i64)] [] (g_impl_vectors_1a k (d + 1)) fun v w K r h => hg_impl_vectors_1a k d K v w ▸ h


/-! "loop.example/localglobal/impl.vectors" -/
noncomputable def f_impl_vectorsa {R : Type} (k : Nat) (a0 : Int) (a1 : Int) (c0_0 : List Int) (c1_0 : Int) (K : List Int → Int → Option R) : Option R :=
  cond (decide (0 ≤ a0) && decide (a0 ≤ a0) && decide (a0 ≤ 4294967296)) (f_impl_vectors_1a k k 0 a0 a1 c0_0 c1_0 (List.replicate (Int.toNat a0) 0) (fun r1 r2 r3 r4 r5 => K r3 r4)) none


noncomputable def g_impl_vectorsa {R : Type} (k : Nat) (v : HT [.int .i64, .int .i64, .clo 40 [0, 1]]) (w : HO [.cells 26 [.sl false 3 (.int .i64)], .cells 3 [.int .i64]]) (K : List SV → List Ob → Option R) : Option R := f_impl_vectorsa k v.1 v.2.1 w.1.1 w.2.1.1 (fun r0 r1 => K [] [.cells 26 [.sl false 3 (.int .i64) r0], .cells 3 [.int .i64 r1]])
noncomputable def F_impl_vectorsa {R : Type} (k : Nat) : CF R := wrapF [.int .i64, .int .i64, .clo 40 [0, 1]] [.cells 26 [.sl false 3 (.int .i64)], .cells 3 [.int .i64]] (g_impl_vectorsa k)
noncomputable def A_impl_vectorsa : Ann := { pre := nats [], cut := look [], frz := fun i => match look [] i with | some l => l | none => [], fz := nats [], out := outOf [] (some []) }
noncomputable def T_impl_vectorsa {R : Type} (k : Nat) : List (Nat × (Bool × CF R)) := [(68, (false, (F_impl_vectors_1a k k)))]
noncomputable def L_impl_vectorsa {R : Type} (k : Nat) (c : Code) (s : St) (K : Exit → St → Option R) : Option R := none
theorem hT_impl_vectorsa {R : Type} (k : Nat) : TabOk tyE.P (T_impl_vectorsa (R := R) k) := ⟨(good_impl_vectors_1a k k), trivial⟩
theorem hg_impl_vectorsa {R : Type} (k : Nat) (K : List SV → List Ob → Option R) : ∀ v w, g_impl_vectorsa k v w K = runF (look (T_impl_vectorsa k)) tyE A_impl_vectorsa (nats []) (L_impl_vectorsa k) (Func.ntmps Try.f32) [] (bodyOf Try.f32) [.int .i64, .int .i64, .clo 40 [0, 1]] [.cells 26 [.sl false 3 (.int .i64)], .cells 3 [.int .i64]] [] v w K := by
  rintro ⟨x0, x1, x2, _⟩ ⟨⟨z0_0, _⟩, ⟨z1_0, _⟩, _⟩
  kernel_rfl
theorem good_impl_vectorsa {R : Type} (k : Nat) : Good tyE.P 32 false (F_impl_vectorsa (R := R) k) :=
  fn_good tyE_ok (tab_ok (hT_impl_vectorsa k)) A_impl_vectorsa (nats []) (fn := Try.f32) (c := bodyOf Try.f32) (rs := []) (by kernel_rfl) (by kernel_rfl) (by kernel_rfl) (by kernel_rfl) (L := L_impl_vectorsa k) (loops_nil (R := R) (by kernel_rfl)) [.int .i64, .int .i64, .clo 40 [0, 1]] [.cells 26 [.sl false 3 (.int .i64)], .cells 3 [.int .i64]] [] (g_impl_vectorsa k) fun v w K r h => hg_impl_vectorsa k K v w ▸ h


/-! "loop.example/localglobal/impl.ZeroMany" -/
noncomputable def f_impl_ZeroMany {R : Type} (k : Nat) (a0 : List Int) (a1 : Int) (K : Int → Option R) : Option R :=
  f_impl_FormValid k a0 (fun r1 => cond (!(r1)) (K (-1)) (cond (decide (a1 < 1)) (K (-1)) (cond (decide (6 < a1)) (K (-1)) (f_impl_vectorsa k (a0.length : Int) a1 a0 0 (fun r2 r3 => K r3)))))


noncomputable def g_impl_ZeroMany {R : Type} (k : Nat) (v : HT [.sl false 3 (.int .i64), .int .i64]) (w : HO []) (K : List SV → List Ob → Option R) : Option R := f_impl_ZeroMany k v.1 v.2.1 (fun r0 => K [.int .i64 r0] [])
noncomputable def F_impl_ZeroMany {R : Type} (k : Nat) : CF R := wrapF [.sl false 3 (.int .i64), .int .i64] [] (g_impl_ZeroMany k)
noncomputable def A_impl_ZeroMany : Ann := { pre := nats [], cut := look [], frz := fun i => match look [] i with | some l => l | none => [], fz := nats [], out := outOf [] (some [4]) }
noncomputable def T_impl_ZeroMany {R : Type} (k : Nat) : List (Nat × (Bool × CF R)) := [(31, (false, (F_impl_FormValid k))), (32, (false, (F_impl_vectorsa k)))]
noncomputable def L_impl_ZeroMany {R : Type} (k : Nat) (c : Code) (s : St) (K : Exit → St → Option R) : Option R := none
theorem hT_impl_ZeroMany {R : Type} (k : Nat) : TabOk tyE.P (T_impl_ZeroMany (R := R) k) := ⟨(good_impl_FormValid k), (good_impl_vectorsa k), trivial⟩
theorem hg_impl_ZeroMany {R : Type} (k : Nat) (K : List SV → List Ob → Option R) : ∀ v w, g_impl_ZeroMany k v w K = runF (look (T_impl_ZeroMany k)) tyE A_impl_ZeroMany (nats []) (L_impl_ZeroMany k) (Func.ntmps Try.f14) [.tmp 4] (bodyOf Try.f14) [.sl false 3 (.int .i64), .int .i64] [] [.int .i64] v w K := by
  rintro ⟨x0, x1, _⟩ _
  kernel_rfl
theorem good_impl_ZeroMany {R : Type} (k : Nat) : Good tyE.P 14 false (F_impl_ZeroMany (R := R) k) :=
  fn_good tyE_ok (tab_ok (hT_impl_ZeroMany k)) A_impl_ZeroMany (nats []) (fn := Try.f14) (c := bodyOf Try.f14) (rs := [.tmp 4]) (by kernel_rfl) (by kernel_rfl) (by kernel_rfl) (by kernel_rfl) (L := L_impl_ZeroMany k) (loops_nil (R := R) (by kernel_rfl)) [.sl false 3 (.int .i64), .int .i64] [] [.int .i64] (g_impl_ZeroMany k) fun v w K r h => hg_impl_ZeroMany k K v w ▸ h


end Go.Proofs.Ytmmadcccjicdcaa.E
