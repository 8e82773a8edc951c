/- The program's functions as plain Lean functions, and that the program comes to what they say. -/
import Derived.Test.YtmmadcccjicdcaaG4b
namespace Go.Proofs.Ytmmadcccjicdcaa.E
set_option linter.unusedVariables false
set_option maxRecDepth 100000

/-! "loop.example/localglobal/spec.l91Form" -/
noncomputable def l_spec_l91Form_4 {R : Type} (k : Nat) : Nat → Int → Int → List Int → Int → List Int → (List Int → Int → List Int → Option R) → Option R
  | 0, _, _, _, _, _, _ => none
  | n + 1, v4, v5, v6, v7, v8, K0 => cond (decide (v5 < v4)) (f_spec_l6Rd_pick k 16 v6 v7 (fun r9 r10 r11 => cond (decide (0 ≤ r9) && decide (r9 < (([1, 2, 3, 5, 6, 7, 1, 10, 12, 3, 15, 4, 21, 1, 30, 8]).length : Int))) (f_spec_l6Rd_pick k 5 r10 r11 (fun r12 r13 r14 => cond (decide (r12 < 2)) (cond (Nat.ble (v8.length + 1) LIM) (l_spec_l91Form_4 k n v4 (IntKind.wrap .i64 (v5 + 1)) r13 r14 (v8 ++ [(IntKind.wrap .i64 (0 - (List.getD [1, 2, 3, 5, 6, 7, 1, 10, 12, 3, 15, 4, 21, 1, 30, 8] (Int.toNat r9) 0)))]) K0) none) (cond (Nat.ble (v8.length + 1) LIM) (l_spec_l91Form_4 k n v4 (IntKind.wrap .i64 (v5 + 1)) r13 r14 (v8 ++ [(List.getD [1, 2, 3, 5, 6, 7, 1, 10, 12, 3, 15, 4, 21, 1, 30, 8] (Int.toNat r9) 0)]) K0) none))) none)) (K0 v6 v7 v8)

noncomputable def f_spec_l91Form {R : Type} (k : Nat) (a1 : Int) (c0_0 : List Int) (c0_1 : Int) (K : List Int → Int → List Int → Option R) : Option R :=
  f_spec_l6Rd_pick k a1 c0_0 c0_1 (fun r1 r2 r3 => l_spec_l91Form_4 k k (IntKind.wrap .i64 (1 + r1)) 0 r2 r3 [] (fun y15 y16 y17 => f_spec_l6Rd_pick k 40 y15 y16 (fun r18 r19 r20 => cond (decide (r18 = 0)) (f_spec_l6Rd_pick k 2 r19 r20 (fun r21 r22 r23 => cond (decide (0 ≤ r21) && decide (r21 < (([0, 31]).length : Int))) (cond (decide (0 ≤ 0) && decide (0 < ((y17).length : Int))) (K r22 r23 (List.set y17 (Int.toNat 0) (List.getD [0, 31] (Int.toNat r21) 0))) none) none)) (cond (decide (r18 = 1)) (K r19 r20 []) (K r19 r20 y17)))))


noncomputable def g_spec_l91Form {R : Type} (k : Nat) (v : HT [.ref 0 0, .int .i64]) (w : HO [.cells 66 [.sl true 5 (.int .u8), .int .i64]]) (K : List SV → List Ob → Option R) : Option R := f_spec_l91Form k v.2.1 w.1.1 w.1.2.1 (fun r0 r1 r2 => K [.slo 1] [.cells 66 [.sl true 5 (.int .u8) r0, .int .i64 r1], .arr 3 (.int .i64) r2])
noncomputable def F_spec_l91Form {R : Type} (k : Nat) : CF R := wrapF [.ref 0 0, .int .i64] [.cells 66 [.sl true 5 (.int .u8), .int .i64]] (g_spec_l91Form k)
noncomputable def A_spec_l91Form : Ann := { pre := nats [], cut := look [(4, [0, 5, 6, 7])], frz := fun i => match look [] i with | some l => l | none => [], fz := nats [], out := outOf [(0, [0, 5])] (some [4]) }
noncomputable def T_spec_l91Form {R : Type} (k : Nat) : List (Nat × (Bool × CF R)) := [(36, (false, (F_spec_l6Rd_pick k)))]
noncomputable abbrev h_spec_l91Form_4 : Shape := ⟨[(0, .ref 0 0), (5, .slo 1009), (6, .int .i64), (7, .int .i64)], [(0, .cells 66 [.sl true 5 (.int .u8), .int .i64]), (1009, .arr 3 (.int .i64))]⟩
noncomputable def lf_spec_l91Form_4 {R : Type} (k : Nat) (n : Nat) (v : h_spec_l91Form_4.T) (K : Exit → St → Option R) : Option R := l_spec_l91Form_4 k n v.1.2.2.1 v.1.2.2.2.1 v.2.1.1 v.2.1.2.1 v.2.2.1 (fun y0 y1 y2 => K (.exit 0) ⟨[(0, .s (.ref 0 0)), (5, .s (.slo 1009))], [(0, .cells 66 [.sl true 5 (.int .u8) y0, .int .i64 y1]), (1009, .arr 3 (.int .i64) y2)]⟩)
noncomputable def L_spec_l91Form {R : Type} (k : Nat) (c : Code) (s : St) (K : Exit → St → Option R) : Option R := cond (Nat.beq (firstReg c) 4) ((h_spec_l91Form_4.dec (cutAt A_spec_l91Form c s)).bind fun v => lf_spec_l91Form_4 k k v K) (none)
theorem hT_spec_l91Form {R : Type} (k : Nat) : TabOk tyE.P (T_spec_l91Form (R := R) k) := ⟨(good_spec_l6Rd_pick k), trivial⟩
noncomputable def b_spec_l91Form_4 : Code := nthLoop (bodyOf Try.f35) 0
theorem hs_spec_l91Form_4 {R : Type} (k : Nat) (n : Nat) (K : Exit → St → Option R) : ∀ v, lf_spec_l91Form_4 k (n + 1) v K = evk (look (T_spec_l91Form k)) tyE A_spec_l91Form (Func.ntmps Try.f35) (drawn (look (T_spec_l91Form k)) tyE A_spec_l91Form (nats []) (Func.ntmps Try.f35)) (L_spec_l91Form k) b_spec_l91Form_4 (h_spec_l91Form_4.enc v) (loopK A_spec_l91Form b_spec_l91Form_4 h_spec_l91Form_4.dec (lf_spec_l91Form_4 k) n K) := by
  rintro ⟨⟨_, _, x0, x1, _⟩, ⟨⟨x2, x3, _⟩, x4, _⟩⟩
  kernel_rfl
theorem lo_spec_l91Form_4 {R : Type} (k : Nat) : LoopOk tyE.P (Func.ntmps Try.f35) (L_spec_l91Form (R := R) k) b_spec_l91Form_4 :=
  fn_loop tyE_ok (tab_ok (hT_spec_l91Form k)) A_spec_l91Form (nats []) (loops_nil (R := R) (by kernel_rfl)) h_spec_l91Form_4 (lf_spec_l91Form_4 k) k (fun s K => by kernel_rfl) (fun v K => by kernel_rfl) fun n v K r h => hs_spec_l91Form_4 k n K v ▸ h
theorem hg_spec_l91Form {R : Type} (k : Nat) (K : List SV → List Ob → Option R) : ∀ v w, g_spec_l91Form k v w K = runR (look (T_spec_l91Form k)) tyE A_spec_l91Form (nats []) (L_spec_l91Form k) (Func.ntmps Try.f35) [.tmp 4] (bodyOf Try.f35) [.ref 0 0, .int .i64] [.cells 66 [.sl true 5 (.int .u8), .int .i64]] [.slo 1] v w K := by
  rintro ⟨x0, x1, _⟩ ⟨⟨z0_0, z0_1, _⟩, _⟩
  kernel_rfl
theorem good_spec_l91Form {R : Type} (k : Nat) : Good tyE.P 35 false (F_spec_l91Form (R := R) k) :=
  fn_good_raw tyE_ok (tab_ok (hT_spec_l91Form k)) A_spec_l91Form (nats []) (fn := Try.f35) (c := bodyOf Try.f35) (rs := [.tmp 4]) (by kernel_rfl) (by kernel_rfl) (by kernel_rfl) (by kernel_rfl) (L := L_spec_l91Form k) (loops_one (R := R) (by kernel_rfl) (lo_spec_l91Form_4 k)) [.ref 0 0, .int .i64] [.cells 66 [.sl true 5 (.int .u8), .int .i64]] [.slo 1] (g_spec_l91Form k) fun v w K r h => hg_spec_l91Form k K v w ▸ h


/-! "loop.example/localglobal/spec.DrawValueMany" -/
noncomputable def f_spec_DrawValueMany {R : Type} (k : Nat) (a0 : List Int) (K : List Int → Int → Int → Option R) : Option R :=
  f_spec_l6Open k a0 (fun r1 r2 => f_spec_l91Form k 3 r1 r2 (fun r3 r4 r5 => f_spec_l6Rd_pick k 30 r3 r4 (fun r6 r7 r8 => f_spec_l6Rd_pick k 3 r7 r8 (fun r9 r10 r11 => f_spec_l6Rd_pick k 20 r10 r11 (fun r12 r13 r14 => f_spec_l6Rd_pick k 4 r13 r14 (fun r15 r16 r17 => f_spec_l6Rd_pick k 20 r16 r17 (fun r18 r19 r20 => K r5 (IntKind.wrap .i64 ((IntKind.wrap .i64 (r6 - (IntKind.wrap .i64 (r9 * 5)))) + (IntKind.wrap .i64 ((IntKind.wrap .i64 (Int.tdiv r12 19)) * 990)))) (IntKind.wrap .i64 ((IntKind.wrap .i64 (1 + r15)) - (IntKind.wrap .i64 ((IntKind.wrap .i64 (Int.tdiv r18 19)) * 4)))))))))))


noncomputable def g_spec_DrawValueMany {R : Type} (k : Nat) (v : HT [.sl true 5 (.int .u8)]) (w : HO []) (K : List SV → List Ob → Option R) : Option R := f_spec_DrawValueMany k v.1 (fun r0 r1 r2 => K [.sl false 3 (.int .i64) r0, .int .i64 r1, .int .i64 r2] [])
noncomputable def F_spec_DrawValueMany {R : Type} (k : Nat) : CF R := wrapF [.sl true 5 (.int .u8)] [] (g_spec_DrawValueMany k)
noncomputable def A_spec_DrawValueMany : Ann := { pre := nats [], cut := look [], frz := fun i => match look [] i with | some l => l | none => [], fz := nats [], out := outOf [] (some [2, 3, 4]) }
noncomputable def T_spec_DrawValueMany {R : Type} (k : Nat) : List (Nat × (Bool × CF R)) := [(27, (false, (F_spec_l6Open k))), (36, (false, (F_spec_l6Rd_pick k))), (35, (false, (F_spec_l91Form k)))]
noncomputable def L_spec_DrawValueMany {R : Type} (k : Nat) (c : Code) (s : St) (K : Exit → St → Option R) : Option R := none
theorem hT_spec_DrawValueMany {R : Type} (k : Nat) : TabOk tyE.P (T_spec_DrawValueMany (R := R) k) := ⟨(good_spec_l6Open k), (good_spec_l6Rd_pick k), (good_spec_l91Form k), trivial⟩
theorem hg_spec_DrawValueMany {R : Type} (k : Nat) (K : List SV → List Ob → Option R) : ∀ v w, g_spec_DrawValueMany k v w K = runF (look (T_spec_DrawValueMany k)) tyE A_spec_DrawValueMany (nats []) (L_spec_DrawValueMany k) (Func.ntmps Try.f12) [.tmp 2, .tmp 3, .tmp 4] (bodyOf Try.f12) [.sl true 5 (.int .u8)] [] [.sl false 3 (.int .i64), .int .i64, .int .i64] v w K := by
  rintro ⟨x0, _⟩ _
  kernel_rfl
theorem good_spec_DrawValueMany {R : Type} (k : Nat) : Good tyE.P 12 false (F_spec_DrawValueMany (R := R) k) :=
  fn_good tyE_ok (tab_ok (hT_spec_DrawValueMany k)) A_spec_DrawValueMany (nats []) (fn := Try.f12) (c := bodyOf Try.f12) (rs := [.tmp 2, .tmp 3, .tmp 4]) (by kernel_rfl) (by kernel_rfl) (by kernel_rfl) (by kernel_rfl) (L := L_spec_DrawValueMany k) (loops_nil (R := R) (by kernel_rfl)) [.sl true 5 (.int .u8)] [] [.sl false 3 (.int .i64), .int .i64, .int .i64] (g_spec_DrawValueMany k) fun v w K r h => hg_spec_DrawValueMany k K v w ▸ h


/-! "loop.example/localglobal/laws.sizeOf" -/
noncomputable def f_laws_sizeOf {R : Type} (k : Nat) (a0 : Int) (K : Int → Option R) : Option R :=
  K (cond (decide (a0 < (IntKind.wrap .i64 (0 - a0)))) (IntKind.wrap .i64 (0 - a0)) a0)


noncomputable def g_laws_sizeOf {R : Type} (k : Nat) (v : HT [.int .i64]) (w : HO []) (K : List SV → List Ob → Option R) : Option R := f_laws_sizeOf k v.1 (fun r0 => K [.int .i64 r0] [])
noncomputable def F_laws_sizeOf {R : Type} (k : Nat) : CF R := wrapF [.int .i64] [] (g_laws_sizeOf k)
noncomputable def A_laws_sizeOf : Ann := { pre := nats [], cut := look [], frz := fun i => match look [] i with | some l => l | none => [], fz := nats [], out := outOf [] (some [2]) }
noncomputable def T_laws_sizeOf {R : Type} (k : Nat) : List (Nat × (Bool × CF R)) := []
noncomputable def L_laws_sizeOf {R : Type} (k : Nat) (c : Code) (s : St) (K : Exit → St → Option R) : Option R := none
theorem hT_laws_sizeOf {R : Type} (k : Nat) : TabOk tyE.P (T_laws_sizeOf (R := R) k) := trivial
theorem hg_laws_sizeOf {R : Type} (k : Nat) (K : List SV → List Ob → Option R) : ∀ v w, g_laws_sizeOf k v w K = runF (look (T_laws_sizeOf k)) tyE A_laws_sizeOf (nats []) (L_laws_sizeOf k) (Func.ntmps Try.f15) [.tmp 2] (bodyOf Try.f15) [.int .i64] [] [.int .i64] v w K := by
  rintro ⟨x0, _⟩ _
  kernel_rfl
theorem good_laws_sizeOf {R : Type} (k : Nat) : Good tyE.P 15 false (F_laws_sizeOf (R := R) k) :=
  fn_good tyE_ok (tab_ok (hT_laws_sizeOf k)) A_laws_sizeOf (nats []) (fn := Try.f15) (c := bodyOf Try.f15) (rs := [.tmp 2]) (by kernel_rfl) (by kernel_rfl) (by kernel_rfl) (by kernel_rfl) (L := L_laws_sizeOf k) (loops_nil (R := R) (by kernel_rfl)) [.int .i64] [] [.int .i64] (g_laws_sizeOf k) fun v w K r h => hg_laws_sizeOf k K v w ▸ h


/-! "loop.example/localglobal/laws.FnValueMany" -/
noncomputable def f_laws_FnValueMany {R : Type} (k : Nat) (a0 : List Int) (K : Bool → Option R) : Option R :=
  cond (decide (1048576 < (a0.length : Int))) (K true) (f_spec_DrawValueMany k a0 (fun r1 r2 r3 => f_impl_ValueMany k r1 r2 r3 (fun r4 => f_spec_ValueMany k r1 r2 r3 (fun r5 => cond (!decide (r4 = r5)) (K (decide (r4 = r5))) (cond (decide (r4 < 0)) (K (decide (r4 = r5))) (f_impl_ValueMany k r1 r2 (IntKind.wrap .i64 (r3 + 1)) (fun r6 => cond (decide (r2 = 0)) (cond (decide (r3 = 6)) (f_impl_ZeroMany k r1 r3 (fun r7 => K (decide ((IntKind.wrap .i64 ((IntKind.wrap .i64 (2 * r7)) + 1)) ≤ r4)))) (cond (decide (r4 ≤ r6)) (f_impl_ZeroMany k r1 r3 (fun r8 => K (decide ((IntKind.wrap .i64 ((IntKind.wrap .i64 (2 * r8)) + 1)) ≤ r4)))) (K false))) (cond (decide (r3 = 6)) (cond (decide ((Int.tmod r4 2) = 0)) (cond (decide (r4 = 0)) (K true) (f_laws_sizeOf k r2 (fun r9 => cond (decide (30 < r9)) (K true) (f_impl_ValueEverywhere k r1 r2 (fun r10 => K r10))))) (K false)) (cond (decide (r4 ≤ r6)) (cond (decide ((Int.tmod r4 2) = 0)) (cond (decide (r4 = 0)) (K true) (f_laws_sizeOf k r2 (fun r11 => cond (decide (30 < r11)) (K true) (f_impl_ValueEverywhere k r1 r2 (fun r12 => K r12))))) (K false)) (K false))))))))))


noncomputable def g_laws_FnValueMany {R : Type} (k : Nat) (v : HT [.sl true 5 (.int .u8)]) (w : HO []) (K : List SV → List Ob → Option R) : Option R := f_laws_FnValueMany k v.1 (fun r0 => K [.bool r0] [])
noncomputable def F_laws_FnValueMany {R : Type} (k : Nat) : CF R := wrapF [.sl true 5 (.int .u8)] [] (g_laws_FnValueMany k)
noncomputable def A_laws_FnValueMany : Ann := { pre := nats [], cut := look [], frz := fun i => match look [] i with | some l => l | none => [], fz := nats [], out := outOf [] (some [2]) }
noncomputable def T_laws_FnValueMany {R : Type} (k : Nat) : List (Nat × (Bool × CF R)) := [(16, (false, (F_impl_ValueEverywhere k))), (11, (false, (F_impl_ValueMany k))), (14, (false, (F_impl_ZeroMany k))), (15, (false, (F_laws_sizeOf k))), (12, (false, (F_spec_DrawValueMany k))), (13, (false, (F_spec_ValueMany k)))]
noncomputable def L_laws_FnValueMany {R : Type} (k : Nat) (c : Code) (s : St) (K : Exit → St → Option R) : Option R := none
theorem hT_laws_FnValueMany {R : Type} (k : Nat) : TabOk tyE.P (T_laws_FnValueMany (R := R) k) := ⟨(good_impl_ValueEverywhere k), (good_impl_ValueMany k), (good_impl_ZeroMany k), (good_laws_sizeOf k), (good_spec_DrawValueMany k), (good_spec_ValueMany k), trivial⟩
theorem hg_laws_FnValueMany {R : Type} (k : Nat) (K : List SV → List Ob → Option R) : ∀ v w, g_laws_FnValueMany k v w K = runF (look (T_laws_FnValueMany k)) tyE A_laws_FnValueMany (nats []) (L_laws_FnValueMany k) (Func.ntmps Try.f4) [.tmp 2] (bodyOf Try.f4) [.sl true 5 (.int .u8)] [] [.bool] v w K := by
  rintro ⟨x0, _⟩ _
  kernel_rfl
theorem good_laws_FnValueMany {R : Type} (k : Nat) : Good tyE.P 4 false (F_laws_FnValueMany (R := R) k) :=
  fn_good tyE_ok (tab_ok (hT_laws_FnValueMany k)) A_laws_FnValueMany (nats []) (fn := Try.f4) (c := bodyOf Try.f4) (rs := [.tmp 2]) (by kernel_rfl) (by kernel_rfl) (by kernel_rfl) (by kernel_rfl) (L := L_laws_FnValueMany k) (loops_nil (R := R) (by kernel_rfl)) [.sl true 5 (.int .u8)] [] [.bool] (g_laws_FnValueMany k) fun v w K r h => hg_laws_FnValueMany k K v w ▸ h


end Go.Proofs.Ytmmadcccjicdcaa.E
