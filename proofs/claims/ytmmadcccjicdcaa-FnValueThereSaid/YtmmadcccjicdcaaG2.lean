/- The program's functions as plain Lean functions, and that the program comes to what they say. -/
import Derived.Test.YtmmadcccjicdcaaS0
namespace Go.Proofs.Ytmmadcccjicdcaa.E
set_option linter.unusedVariables false
set_option maxRecDepth 100000

/-! "loop.example/localglobal/spec.l6Open" -/
noncomputable def f_spec_l6Open {R : Type} (k : Nat) (a0 : List Int) (K : List Int → Int → Option R) : Option R :=
  cond (decide (2000 < (a0.length : Int))) (cond (decide (0 ≤ 0) && decide (0 ≤ 2000) && decide (2000 ≤ (a0.length : Int))) (K ((a0.take (Int.toNat 2000)).drop (Int.toNat 0)) 0) none) (K a0 0)


noncomputable def g_spec_l6Open {R : Type} (k : Nat) (v : HT [.sl true 5 (.int .u8)]) (w : HO []) (K : List SV → List Ob → Option R) : Option R := f_spec_l6Open k v.1 (fun r0 r1 => K [.ref 0 0] [.cells 66 [.sl true 5 (.int .u8) r0, .int .i64 r1]])
noncomputable def F_spec_l6Open {R : Type} (k : Nat) : CF R := wrapF [.sl true 5 (.int .u8)] [] (g_spec_l6Open k)
noncomputable def A_spec_l6Open : Ann := { pre := nats [], cut := look [], frz := fun i => match look [] i with | some l => l | none => [], fz := nats [], out := outOf [] (some [2]) }
noncomputable def T_spec_l6Open {R : Type} (k : Nat) : List (Nat × (Bool × CF R)) := []
noncomputable def L_spec_l6Open {R : Type} (k : Nat) (c : Code) (s : St) (K : Exit → St → Option R) : Option R := none
theorem hT_spec_l6Open {R : Type} (k : Nat) : TabOk tyE.P (T_spec_l6Open (R := R) k) := trivial
theorem hg_spec_l6Open {R : Type} (k : Nat) (K : List SV → List Ob → Option R) : ∀ v w, g_spec_l6Open k v w K = runR (look (T_spec_l6Open k)) tyE A_spec_l6Open (nats []) (L_spec_l6Open k) (Func.ntmps Try.f27) [.tmp 2] (bodyOf Try.f27) [.sl true 5 (.int .u8)] [] [.ref 0 0] v w K := by
  rintro ⟨x0, _⟩ _
  kernel_rfl
theorem good_spec_l6Open {R : Type} (k : Nat) : Good tyE.P 27 false (F_spec_l6Open (R := R) k) :=
  fn_good_raw tyE_ok (tab_ok (hT_spec_l6Open k)) A_spec_l6Open (nats []) (fn := Try.f27) (c := bodyOf Try.f27) (rs := [.tmp 2]) (by kernel_rfl) (by kernel_rfl) (by kernel_rfl) (by kernel_rfl) (L := L_spec_l6Open k) (loops_nil (R := R) (by kernel_rfl)) [.sl true 5 (.int .u8)] [] [.ref 0 0] (g_spec_l6Open k) fun v w K r h => hg_spec_l6Open k K v w ▸ h


/-! "(*loop.example/localglobal/spec.l6Rd).pick" -/
noncomputable def f_spec_l6Rd_pick {R : Type} (k : Nat) (a1 : Int) (c0_0 : List Int) (c0_1 : Int) (K : Int → List Int → Int → Option R) : Option R :=
  cond (decide (a1 < 1)) (K 0 c0_0 (IntKind.wrap .i64 (c0_1 + 1))) (cond (decide ((c0_0.length : Int) = 0)) (K 0 c0_0 (IntKind.wrap .i64 (c0_1 + 1))) (cond (decide ((IntKind.wrap .i64 ((IntKind.wrap .i64 (c0_1 + 1)) - 1)) < (c0_0.length : Int))) (cond (decide (0 ≤ (IntKind.wrap .i64 ((IntKind.wrap .i64 (c0_1 + 1)) - 1))) && decide ((IntKind.wrap .i64 ((IntKind.wrap .i64 (c0_1 + 1)) - 1)) < ((c0_0).length : Int))) (cond (!decide (a1 = 0)) (K (Int.tmod (IntKind.wrap .i64 ((List.getD c0_0 (Int.toNat (IntKind.wrap .i64 ((IntKind.wrap .i64 (c0_1 + 1)) - 1))) 0))) a1) c0_0 (IntKind.wrap .i64 (c0_1 + 1))) none) none) (cond (!decide ((c0_0.length : Int) = 0)) (cond (decide (0 ≤ (Int.tmod (IntKind.wrap .i64 ((IntKind.wrap .i64 (c0_1 + 1)) - 1)) (c0_0.length : Int))) && decide ((Int.tmod (IntKind.wrap .i64 ((IntKind.wrap .i64 (c0_1 + 1)) - 1)) (c0_0.length : Int)) < ((c0_0).length : Int))) (cond (!decide ((c0_0.length : Int) = 0)) (cond (decide (0 ≤ (Int.tmod (IntKind.wrap .i64 ((IntKind.wrap .i64 ((IntKind.wrap .i64 ((IntKind.wrap .i64 (c0_1 + 1)) - 1)) * 7)) + 3)) (c0_0.length : Int))) && decide ((Int.tmod (IntKind.wrap .i64 ((IntKind.wrap .i64 ((IntKind.wrap .i64 ((IntKind.wrap .i64 (c0_1 + 1)) - 1)) * 7)) + 3)) (c0_0.length : Int)) < ((c0_0).length : Int))) (cond (!decide ((c0_0.length : Int) = 0)) (cond (!decide (a1 = 0)) (K (Int.tmod (IntKind.wrap .i64 (((BitVec.ofInt (IntKind.bits .i64) (IntKind.wrap .i64 ((IntKind.wrap .i64 ((IntKind.wrap .i64 ((IntKind.wrap .i64 ((IntKind.wrap .i64 ((List.getD c0_0 (Int.toNat (Int.tmod (IntKind.wrap .i64 ((IntKind.wrap .i64 (c0_1 + 1)) - 1)) (c0_0.length : Int))) 0))) * 131)) + (IntKind.wrap .i64 ((IntKind.wrap .i64 ((List.getD c0_0 (Int.toNat (Int.tmod (IntKind.wrap .i64 ((IntKind.wrap .i64 ((IntKind.wrap .i64 ((IntKind.wrap .i64 (c0_1 + 1)) - 1)) * 7)) + 3)) (c0_0.length : Int))) 0))) * 1117)))) + (IntKind.wrap .i64 ((IntKind.wrap .i64 ((IntKind.wrap .i64 (c0_1 + 1)) - 1)) * 29)))) + (IntKind.wrap .i64 ((IntKind.wrap .i64 (Int.tdiv (IntKind.wrap .i64 ((IntKind.wrap .i64 (c0_1 + 1)) - 1)) (c0_0.length : Int))) * 53)))) ^^^ BitVec.ofInt (IntKind.bits .i64) (IntKind.wrap .i64 (Int.tdiv (IntKind.wrap .i64 ((IntKind.wrap .i64 ((IntKind.wrap .i64 ((IntKind.wrap .i64 ((IntKind.wrap .i64 ((List.getD c0_0 (Int.toNat (Int.tmod (IntKind.wrap .i64 ((IntKind.wrap .i64 (c0_1 + 1)) - 1)) (c0_0.length : Int))) 0))) * 131)) + (IntKind.wrap .i64 ((IntKind.wrap .i64 ((List.getD c0_0 (Int.toNat (Int.tmod (IntKind.wrap .i64 ((IntKind.wrap .i64 ((IntKind.wrap .i64 ((IntKind.wrap .i64 (c0_1 + 1)) - 1)) * 7)) + 3)) (c0_0.length : Int))) 0))) * 1117)))) + (IntKind.wrap .i64 ((IntKind.wrap .i64 ((IntKind.wrap .i64 (c0_1 + 1)) - 1)) * 29)))) + (IntKind.wrap .i64 ((IntKind.wrap .i64 (Int.tdiv (IntKind.wrap .i64 ((IntKind.wrap .i64 (c0_1 + 1)) - 1)) (c0_0.length : Int))) * 53)))) 64))).toNat : Int))) a1) c0_0 (IntKind.wrap .i64 (c0_1 + 1))) none) none) none) none) none) none)))


noncomputable def g_spec_l6Rd_pick {R : Type} (k : Nat) (v : HT [.ref 0 0, .int .i64]) (w : HO [.cells 66 [.sl true 5 (.int .u8), .int .i64]]) (K : List SV → List Ob → Option R) : Option R := f_spec_l6Rd_pick k v.2.1 w.1.1 w.1.2.1 (fun r0 r1 r2 => K [.int .i64 r0] [.cells 66 [.sl true 5 (.int .u8) r1, .int .i64 r2]])
noncomputable def F_spec_l6Rd_pick {R : Type} (k : Nat) : CF R := wrapF [.ref 0 0, .int .i64] [.cells 66 [.sl true 5 (.int .u8), .int .i64]] (g_spec_l6Rd_pick k)
noncomputable def A_spec_l6Rd_pick : Ann := { pre := nats [], cut := look [], frz := fun i => match look [] i with | some l => l | none => [], fz := nats [], out := outOf [] (some [4]) }
noncomputable def T_spec_l6Rd_pick {R : Type} (k : Nat) : List (Nat × (Bool × CF R)) := []
noncomputable def L_spec_l6Rd_pick {R : Type} (k : Nat) (c : Code) (s : St) (K : Exit → St → Option R) : Option R := none
theorem hT_spec_l6Rd_pick {R : Type} (k : Nat) : TabOk tyE.P (T_spec_l6Rd_pick (R := R) k) := trivial
theorem hg_spec_l6Rd_pick {R : Type} (k : Nat) (K : List SV → List Ob → Option R) : ∀ v w, g_spec_l6Rd_pick k v w K = runF (look (T_spec_l6Rd_pick k)) tyE A_spec_l6Rd_pick (nats []) (L_spec_l6Rd_pick k) (Func.ntmps Try.f36) [.tmp 4] (bodyOf Try.f36) [.ref 0 0, .int .i64] [.cells 66 [.sl true 5 (.int .u8), .int .i64]] [.int .i64] v w K := by
  rintro ⟨x0, x1, _⟩ ⟨⟨z0_0, z0_1, _⟩, _⟩
  kernel_rfl
theorem good_spec_l6Rd_pick {R : Type} (k : Nat) : Good tyE.P 36 false (F_spec_l6Rd_pick (R := R) k) :=
  fn_good tyE_ok (tab_ok (hT_spec_l6Rd_pick k)) A_spec_l6Rd_pick (nats []) (fn := Try.f36) (c := bodyOf Try.f36) (rs := [.tmp 4]) (by kernel_rfl) (by kernel_rfl) (by kernel_rfl) (by kernel_rfl) (L := L_spec_l6Rd_pick k) (loops_nil (R := R) (by kernel_rfl)) [.ref 0 0, .int .i64] [.cells 66 [.sl true 5 (.int .u8), .int .i64]] [.int .i64] (g_spec_l6Rd_pick k) fun v w K r h => hg_spec_l6Rd_pick k K v w ▸ h


/-! "loop.example/localglobal/spec.l92Sum" -/
noncomputable def f_spec_l92Sum {R : Type} (k : Nat) (c0_0 : List Int) (c0_1 : Int) (K : Int → List Int → Int → Option R) : Option R :=
  f_spec_l6Rd_pick k 20 c0_0 c0_1 (fun r1 r2 r3 => cond (decide (r1 = 0)) (f_spec_l6Rd_pick k 4 r2 r3 (fun r4 r5 r6 => cond (decide (0 ≤ r4) && decide (r4 < (([-1, 0, 2000, 2001]).length : Int))) (K (List.getD [-1, 0, 2000, 2001] (Int.toNat r4) 0) r5 r6) none)) (f_spec_l6Rd_pick k 100 r2 r3 (fun r7 r8 r9 => f_spec_l6Rd_pick k 6 r8 r9 (fun r10 r11 r12 => f_spec_l6Rd_pick k 80 r11 r12 (fun r13 r14 r15 => K (IntKind.wrap .i64 (r7 + (IntKind.wrap .i64 (r10 * r13)))) r14 r15)))))


noncomputable def g_spec_l92Sum {R : Type} (k : Nat) (v : HT [.ref 0 0]) (w : HO [.cells 66 [.sl true 5 (.int .u8), .int .i64]]) (K : List SV → List Ob → Option R) : Option R := f_spec_l92Sum k w.1.1 w.1.2.1 (fun r0 r1 r2 => K [.int .i64 r0] [.cells 66 [.sl true 5 (.int .u8) r1, .int .i64 r2]])
noncomputable def F_spec_l92Sum {R : Type} (k : Nat) : CF R := wrapF [.ref 0 0] [.cells 66 [.sl true 5 (.int .u8), .int .i64]] (g_spec_l92Sum k)
noncomputable def A_spec_l92Sum : Ann := { pre := nats [], cut := look [], frz := fun i => match look [] i with | some l => l | none => [], fz := nats [], out := outOf [] (some [2]) }
noncomputable def T_spec_l92Sum {R : Type} (k : Nat) : List (Nat × (Bool × CF R)) := [(36, (false, (F_spec_l6Rd_pick k)))]
noncomputable def L_spec_l92Sum {R : Type} (k : Nat) (c : Code) (s : St) (K : Exit → St → Option R) : Option R := none
theorem hT_spec_l92Sum {R : Type} (k : Nat) : TabOk tyE.P (T_spec_l92Sum (R := R) k) := ⟨(good_spec_l6Rd_pick k), trivial⟩
theorem hg_spec_l92Sum {R : Type} (k : Nat) (K : List SV → List Ob → Option R) : ∀ v w, g_spec_l92Sum k v w K = runF (look (T_spec_l92Sum k)) tyE A_spec_l92Sum (nats []) (L_spec_l92Sum k) (Func.ntmps Try.f26) [.tmp 2] (bodyOf Try.f26) [.ref 0 0] [.cells 66 [.sl true 5 (.int .u8), .int .i64]] [.int .i64] v w K := by
  rintro ⟨x0, _⟩ ⟨⟨z0_0, z0_1, _⟩, _⟩
  kernel_rfl
theorem good_spec_l92Sum {R : Type} (k : Nat) : Good tyE.P 26 false (F_spec_l92Sum (R := R) k) :=
  fn_good tyE_ok (tab_ok (hT_spec_l92Sum k)) A_spec_l92Sum (nats []) (fn := Try.f26) (c := bodyOf Try.f26) (rs := [.tmp 2]) (by kernel_rfl) (by kernel_rfl) (by kernel_rfl) (by kernel_rfl) (L := L_spec_l92Sum k) (loops_nil (R := R) (by kernel_rfl)) [.ref 0 0] [.cells 66 [.sl true 5 (.int .u8), .int .i64]] [.int .i64] (g_spec_l92Sum k) fun v w K r h => hg_spec_l92Sum k K v w ▸ h


/-! "loop.example/localglobal/spec.DrawTwoEach" -/
noncomputable def f_spec_DrawTwoEach {R : Type} (k : Nat) (a0 : List Int) (K : Int → Option R) : Option R :=
  f_spec_l6Open k a0 (fun r1 r2 => f_spec_l92Sum k r1 r2 (fun r3 r4 r5 => K r3))


noncomputable def g_spec_DrawTwoEach {R : Type} (k : Nat) (v : HT [.sl true 5 (.int .u8)]) (w : HO []) (K : List SV → List Ob → Option R) : Option R := f_spec_DrawTwoEach k v.1 (fun r0 => K [.int .i64 r0] [])
noncomputable def F_spec_DrawTwoEach {R : Type} (k : Nat) : CF R := wrapF [.sl true 5 (.int .u8)] [] (g_spec_DrawTwoEach k)
noncomputable def A_spec_DrawTwoEach : Ann := { pre := nats [], cut := look [], frz := fun i => match look [] i with | some l => l | none => [], fz := nats [], out := outOf [] (some [2]) }
noncomputable def T_spec_DrawTwoEach {R : Type} (k : Nat) : List (Nat × (Bool × CF R)) := [(27, (false, (F_spec_l6Open k))), (26, (false, (F_spec_l92Sum k)))]
noncomputable def L_spec_DrawTwoEach {R : Type} (k : Nat) (c : Code) (s : St) (K : Exit → St → Option R) : Option R := none
theorem hT_spec_DrawTwoEach {R : Type} (k : Nat) : TabOk tyE.P (T_spec_DrawTwoEach (R := R) k) := ⟨(good_spec_l6Open k), (good_spec_l92Sum k), trivial⟩
theorem hg_spec_DrawTwoEach {R : Type} (k : Nat) (K : List SV → List Ob → Option R) : ∀ v w, g_spec_DrawTwoEach k v w K = runF (look (T_spec_DrawTwoEach k)) tyE A_spec_DrawTwoEach (nats []) (L_spec_DrawTwoEach k) (Func.ntmps Try.f8) [.tmp 2] (bodyOf Try.f8) [.sl true 5 (.int .u8)] [] [.int .i64] v w K := by
  rintro ⟨x0, _⟩ _
  kernel_rfl
theorem good_spec_DrawTwoEach {R : Type} (k : Nat) : Good tyE.P 8 false (F_spec_DrawTwoEach (R := R) k) :=
  fn_good tyE_ok (tab_ok (hT_spec_DrawTwoEach k)) A_spec_DrawTwoEach (nats []) (fn := Try.f8) (c := bodyOf Try.f8) (rs := [.tmp 2]) (by kernel_rfl) (by kernel_rfl) (by kernel_rfl) (by kernel_rfl) (L := L_spec_DrawTwoEach k) (loops_nil (R := R) (by kernel_rfl)) [.sl true 5 (.int .u8)] [] [.int .i64] (g_spec_DrawTwoEach k) fun v w K r h => hg_spec_DrawTwoEach k K v w ▸ h


/-! "loop.example/localglobal/impl.squareRoot" -/
noncomputable def l_impl_squareRoot_5 {R : Type} (k : Nat) : Nat → Int → Int → Int → (Int → Int → Option R) → Option R
  | 0, _, _, _, _ => none
  | n + 1, v1, v2, v3, K0 => cond (decide (0 < v3)) (cond (decide ((IntKind.wrap .i64 ((IntKind.wrap .i64 (v2 + v3)) * (IntKind.wrap .i64 (v2 + v3)))) ≤ v1)) (l_impl_squareRoot_5 k n v1 (IntKind.wrap .i64 (v2 + v3)) (IntKind.wrap .i64 (Int.tdiv v3 2)) K0) (l_impl_squareRoot_5 k n v1 v2 (IntKind.wrap .i64 (Int.tdiv v3 2)) K0)) (K0 v1 v2)

noncomputable def f_impl_squareRoot {R : Type} (k : Nat) (a0 : Int) (K : Int → Bool → Option R) : Option R :=
  cond (decide (a0 < 0)) (K 0 false) (l_impl_squareRoot_5 k k a0 0 1073741824 (fun y4 y5 => K y5 (decide ((IntKind.wrap .i64 (y5 * y5)) = y4))))


noncomputable def g_impl_squareRoot {R : Type} (k : Nat) (v : HT [.int .i64]) (w : HO []) (K : List SV → List Ob → Option R) : Option R := f_impl_squareRoot k v.1 (fun r0 r1 => K [.int .i64 r0, .bool r1] [])
noncomputable def F_impl_squareRoot {R : Type} (k : Nat) : CF R := wrapF [.int .i64] [] (g_impl_squareRoot k)
noncomputable def A_impl_squareRoot : Ann := { pre := nats [], cut := look [(5, [0, 4, 5])], frz := fun i => match look [] i with | some l => l | none => [], fz := nats [], out := outOf [(0, [0, 4])] (some [2, 3]) }
noncomputable def T_impl_squareRoot {R : Type} (k : Nat) : List (Nat × (Bool × CF R)) := []
noncomputable abbrev h_impl_squareRoot_5 : Shape := ⟨[(0, .int .i64), (4, .int .i64), (5, .int .i64)], []⟩
noncomputable def lf_impl_squareRoot_5 {R : Type} (k : Nat) (n : Nat) (v : h_impl_squareRoot_5.T) (K : Exit → St → Option R) : Option R := l_impl_squareRoot_5 k n v.1.1 v.1.2.1 v.1.2.2.1 (fun y0 y1 => K (.exit 0) ⟨[(0, .s (.int .i64 y0)), (4, .s (.int .i64 y1))], []⟩)
noncomputable def L_impl_squareRoot {R : Type} (k : Nat) (c : Code) (s : St) (K : Exit → St → Option R) : Option R := cond (Nat.beq (firstReg c) 5) ((h_impl_squareRoot_5.dec (cutAt A_impl_squareRoot c s)).bind fun v => lf_impl_squareRoot_5 k k v K) (none)
theorem hT_impl_squareRoot {R : Type} (k : Nat) : TabOk tyE.P (T_impl_squareRoot (R := R) k) := trivial
noncomputable def b_impl_squareRoot_5 : Code := nthLoop (bodyOf Try.f66) 0
theorem hs_impl_squareRoot_5 {R : Type} (k : Nat) (n : Nat) (K : Exit → St → Option R) : ∀ v, lf_impl_squareRoot_5 k (n + 1) v K = evk (look (T_impl_squareRoot k)) tyE A_impl_squareRoot (Func.ntmps Try.f66) (drawn (look (T_impl_squareRoot k)) tyE A_impl_squareRoot (nats []) (Func.ntmps Try.f66)) (L_impl_squareRoot k) b_impl_squareRoot_5 (h_impl_squareRoot_5.enc v) (loopK A_impl_squareRoot b_impl_squareRoot_5 h_impl_squareRoot_5.dec (lf_impl_squareRoot_5 k) n K) := by
  rintro ⟨⟨x0, x1, x2, _⟩, _⟩
  kernel_rfl
theorem lo_impl_squareRoot_5 {R : Type} (k : Nat) : LoopOk tyE.P (Func.ntmps Try.f66) (L_impl_squareRoot (R := R) k) b_impl_squareRoot_5 :=
  fn_loop tyE_ok (tab_ok (hT_impl_squareRoot k)) A_impl_squareRoot (nats []) (loops_nil (R := R) (by kernel_rfl)) h_impl_squareRoot_5 (lf_impl_squareRoot_5 k) k (fun s K => by kernel_rfl) (fun v K => by kernel_rfl) fun n v K r h => hs_impl_squareRoot_5 k n K v ▸ h
theorem hg_impl_squareRoot {R : Type} (k : Nat) (K : List SV → List Ob → Option R) : ∀ v w, g_impl_squareRoot k v w K = runF (look (T_impl_squareRoot k)) tyE A_impl_squareRoot (nats []) (L_impl_squareRoot k) (Func.ntmps Try.f66) [.tmp 2, .tmp 3] (bodyOf Try.f66) [.int .i64] [] [.int .i64, .bool] v w K := by
  rintro ⟨x0, _⟩ _
  kernel_rfl
theorem good_impl_squareRoot {R : Type} (k : Nat) : Good tyE.P 66 false (F_impl_squareRoot (R := R) k) :=
  fn_good tyE_ok (tab_ok (hT_impl_squareRoot k)) A_impl_squareRoot (nats []) (fn := Try.f66) (c := bodyOf Try.f66) (rs := [.tmp 2, .tmp 3]) (by kernel_rfl) (by kernel_rfl) (by kernel_rfl) (by kernel_rfl) (L := L_impl_squareRoot k) (loops_one (R := R) (by kernel_rfl) (lo_impl_squareRoot_5 k)) [.int .i64] [] [.int .i64, .bool] (g_impl_squareRoot k) fun v w K r h => hg_impl_squareRoot k K v w ▸ h


/-! "loop.example/localglobal/impl.twoWays" -/
noncomputable def l_impl_twoWays_3 {R : Type} (k : Nat) : Nat → Int → Int → Int → (Int → Option R) → Option R
  | 0, _, _, _, _ => none
  | n + 1, v1, v2, v3, K0 => cond (decide ((IntKind.wrap .i64 (v3 * v3)) ≤ v1)) (f_impl_squareRoot k (IntKind.wrap .i64 (v1 - (IntKind.wrap .i64 (v3 * v3)))) (fun r4 r5 => cond (r5) (cond (decide (0 < v3)) (cond (decide (0 < r4)) (l_impl_twoWays_3 k n v1 (IntKind.wrap .i64 (v2 + (IntKind.wrap .i64 ((IntKind.wrap .i64 (1 * 2)) * 2)))) (IntKind.wrap .i64 (v3 + 1)) K0) (l_impl_twoWays_3 k n v1 (IntKind.wrap .i64 (v2 + (IntKind.wrap .i64 (1 * 2)))) (IntKind.wrap .i64 (v3 + 1)) K0)) (cond (decide (0 < r4)) (l_impl_twoWays_3 k n v1 (IntKind.wrap .i64 (v2 + (IntKind.wrap .i64 (1 * 2)))) (IntKind.wrap .i64 (v3 + 1)) K0) (l_impl_twoWays_3 k n v1 (IntKind.wrap .i64 (v2 + 1)) (IntKind.wrap .i64 (v3 + 1)) K0))) (l_impl_twoWays_3 k n v1 v2 (IntKind.wrap .i64 (v3 + 1)) K0))) (K0 v2)

noncomputable def f_impl_twoWays {R : Type} (k : Nat) (a0 : Int) (K : Int → Option R) : Option R :=
  l_impl_twoWays_3 k k a0 0 0 (fun y6 => K y6)


noncomputable def g_impl_twoWays {R : Type} (k : Nat) (v : HT [.int .i64]) (w : HO []) (K : List SV → List Ob → Option R) : Option R := f_impl_twoWays k v.1 (fun r0 => K [.int .i64 r0] [])
noncomputable def F_impl_twoWays {R : Type} (k : Nat) : CF R := wrapF [.int .i64] [] (g_impl_twoWays k)
noncomputable def A_impl_twoWays : Ann := { pre := nats [], cut := look [(3, [0, 3, 4])], frz := fun i => match look [] i with | some l => l | none => [], fz := nats [], out := outOf [(0, [3])] (some [2]) }
noncomputable def T_impl_twoWays {R : Type} (k : Nat) : List (Nat × (Bool × CF R)) := [(66, (false, (F_impl_squareRoot k)))]
noncomputable abbrev h_impl_twoWays_3 : Shape := ⟨[(0, .int .i64), (3, .int .i64), (4, .int .i64)], []⟩
noncomputable def lf_impl_twoWays_3 {R : Type} (k : Nat) (n : Nat) (v : h_impl_twoWays_3.T) (K : Exit → St → Option R) : Option R := l_impl_twoWays_3 k n v.1.1 v.1.2.1 v.1.2.2.1 (fun y0 => K (.exit 0) ⟨[(3, .s (.int .i64 y0))], []⟩)
noncomputable def L_impl_twoWays {R : Type} (k : Nat) (c : Code) (s : St) (K : Exit → St → Option R) : Option R := cond (Nat.beq (firstReg c) 3) ((h_impl_twoWays_3.dec (cutAt A_impl_twoWays c s)).bind fun v => lf_impl_twoWays_3 k k v K) (none)
theorem hT_impl_twoWays {R : Type} (k : Nat) : TabOk tyE.P (T_impl_twoWays (R := R) k) := ⟨(good_impl_squareRoot k), trivial⟩
noncomputable def b_impl_twoWays_3 : Code := nthLoop (bodyOf Try.f28) 0
theorem hs_impl_twoWays_3 {R : Type} (k : Nat) (n : Nat) (K : Exit → St → Option R) : ∀ v, lf_impl_twoWays_3 k (n + 1) v K = evk (look (T_impl_twoWays k)) tyE A_impl_twoWays (Func.ntmps Try.f28) (drawn (look (T_impl_twoWays k)) tyE A_impl_twoWays (nats []) (Func.ntmps Try.f28)) (L_impl_twoWays k) b_impl_twoWays_3 (h_impl_twoWays_3.enc v) (loopK A_impl_twoWays b_impl_twoWays_3 h_impl_twoWays_3.dec (lf_impl_twoWays_3 k) n K) := by
  rintro ⟨⟨x0, x1, x2, _⟩, _⟩
  kernel_rfl
theorem lo_impl_twoWays_3 {R : Type} (k : Nat) : LoopOk tyE.P (Func.ntmps Try.f28) (L_impl_twoWays (R := R) k) b_impl_twoWays_3 :=
  fn_loop tyE_ok (tab_ok (hT_impl_twoWays k)) A_impl_twoWays (nats []) (loops_nil (R := R) (by kernel_rfl)) h_impl_twoWays_3 (lf_impl_twoWays_3 k) k (fun s K => by kernel_rfl) (fun v K => by kernel_rfl) fun n v K r h => hs_impl_twoWays_3 k n K v ▸ h
theorem hg_impl_twoWays {R : Type} (k : Nat) (K : List SV → List Ob → Option R) : ∀ v w, g_impl_twoWays k v w K = runF (look (T_impl_twoWays k)) tyE A_impl_twoWays (nats []) (L_impl_twoWays k) (Func.ntmps Try.f28) [.tmp 2] (bodyOf Try.f28) [.int .i64] [] [.int .i64] v w K := by
  rintro ⟨x0, _⟩ _
  kernel_rfl
theorem good_impl_twoWays {R : Type} (k : Nat) : Good tyE.P 28 false (F_impl_twoWays (R := R) k) :=
  fn_good tyE_ok (tab_ok (hT_impl_twoWays k)) A_impl_twoWays (nats []) (fn := Try.f28) (c := bodyOf Try.f28) (rs := [.tmp 2]) (by kernel_rfl) (by kernel_rfl) (by kernel_rfl) (by kernel_rfl) (L := L_impl_twoWays k) (loops_one (R := R) (by kernel_rfl) (lo_impl_twoWays_3 k)) [.int .i64] [] [.int .i64] (g_impl_twoWays k) fun v w K r h => hg_impl_twoWays k K v w ▸ h


/-! "loop.example/localglobal/impl.TwoEach" -/
noncomputable def f_impl_TwoEach {R : Type} (k : Nat) (a0 : Int) (K : Int → Option R) : Option R :=
  cond (decide (a0 < 0)) (K (-1)) (cond (decide (2000 < a0)) (K (-1)) (f_impl_twoWays k a0 (fun r1 => K r1)))


noncomputable def g_impl_TwoEach {R : Type} (k : Nat) (v : HT [.int .i64]) (w : HO []) (K : List SV → List Ob → Option R) : Option R := f_impl_TwoEach k v.1 (fun r0 => K [.int .i64 r0] [])
noncomputable def F_impl_TwoEach {R : Type} (k : Nat) : CF R := wrapF [.int .i64] [] (g_impl_TwoEach k)
noncomputable def A_impl_TwoEach : Ann := { pre := nats [], cut := look [], frz := fun i => match look [] i with | some l => l | none => [], fz := nats [], out := outOf [] (some [2]) }
noncomputable def T_impl_TwoEach {R : Type} (k : Nat) : List (Nat × (Bool × CF R)) := [(28, (false, (F_impl_twoWays k)))]
noncomputable def L_impl_TwoEach {R : Type} (k : Nat) (c : Code) (s : St) (K : Exit → St → Option R) : Option R := none
theorem hT_impl_TwoEach {R : Type} (k : Nat) : TabOk tyE.P (T_impl_TwoEach (R := R) k) := ⟨(good_impl_twoWays k), trivial⟩
theorem hg_impl_TwoEach {R : Type} (k : Nat) (K : List SV → List Ob → Option R) : ∀ v w, g_impl_TwoEach k v w K = runF (look (T_impl_TwoEach k)) tyE A_impl_TwoEach (nats []) (L_impl_TwoEach k) (Func.ntmps Try.f9) [.tmp 2] (bodyOf Try.f9) [.int .i64] [] [.int .i64] v w K := by
  rintro ⟨x0, _⟩ _
  kernel_rfl
theorem good_impl_TwoEach {R : Type} (k : Nat) : Good tyE.P 9 false (F_impl_TwoEach (R := R) k) :=
  fn_good tyE_ok (tab_ok (hT_impl_TwoEach k)) A_impl_TwoEach (nats []) (fn := Try.f9) (c := bodyOf Try.f9) (rs := [.tmp 2]) (by kernel_rfl) (by kernel_rfl) (by kernel_rfl) (by kernel_rfl) (L := L_impl_TwoEach k) (loops_nil (R := R) (by kernel_rfl)) [.int .i64] [] [.int .i64] (g_impl_TwoEach k) fun v w K r h => hg_impl_TwoEach k K v w ▸ h


/-! "loop.example/localglobal/spec.l6In" -/
noncomputable def f_spec_l6In {R : Type} (k : Nat) (a0 : Int) (a1 : Int) (a2 : Int) (K : Bool → Option R) : Option R :=
  cond (decide (a1 ≤ a0)) (K (decide (a0 ≤ a2))) (K false)


noncomputable def g_spec_l6In {R : Type} (k : Nat) (v : HT [.int .i64, .int .i64, .int .i64]) (w : HO []) (K : List SV → List Ob → Option R) : Option R := f_spec_l6In k v.1 v.2.1 v.2.2.1 (fun r0 => K [.bool r0] [])
noncomputable def F_spec_l6In {R : Type} (k : Nat) : CF R := wrapF [.int .i64, .int .i64, .int .i64] [] (g_spec_l6In k)
noncomputable def A_spec_l6In : Ann := { pre := nats [], cut := look [], frz := fun i => match look [] i with | some l => l | none => [], fz := nats [], out := outOf [] (some [6]) }
noncomputable def T_spec_l6In {R : Type} (k : Nat) : List (Nat × (Bool × CF R)) := []
noncomputable def L_spec_l6In {R : Type} (k : Nat) (c : Code) (s : St) (K : Exit → St → Option R) : Option R := none
theorem hT_spec_l6In {R : Type} (k : Nat) : TabOk tyE.P (T_spec_l6In (R := R) k) := trivial
theorem hg_spec_l6In {R : Type} (k : Nat) (K : List SV → List Ob → Option R) : ∀ v w, g_spec_l6In k v w K = runF (look (T_spec_l6In k)) tyE A_spec_l6In (nats []) (L_spec_l6In k) (Func.ntmps Try.f38) [.tmp 6] (bodyOf Try.f38) [.int .i64, .int .i64, .int .i64] [] [.bool] v w K := by
  rintro ⟨x0, x1, x2, _⟩ _
  kernel_rfl
theorem good_spec_l6In {R : Type} (k : Nat) : Good tyE.P 38 false (F_spec_l6In (R := R) k) :=
  fn_good tyE_ok (tab_ok (hT_spec_l6In k)) A_spec_l6In (nats []) (fn := Try.f38) (c := bodyOf Try.f38) (rs := [.tmp 6]) (by kernel_rfl) (by kernel_rfl) (by kernel_rfl) (by kernel_rfl) (L := L_spec_l6In k) (loops_nil (R := R) (by kernel_rfl)) [.int .i64, .int .i64, .int .i64] [] [.bool] (g_spec_l6In k) fun v w K r h => hg_spec_l6In k K v w ▸ h


/-! "loop.example/localglobal/spec.l8Sum" -/
noncomputable def f_spec_l8Sum {R : Type} (k : Nat) (a0 : Int) (a1 : Int) (K : Bool → Option R) : Option R :=
  f_spec_l6In k a0 a1 2000 (fun r1 => K r1)


noncomputable def g_spec_l8Sum {R : Type} (k : Nat) (v : HT [.int .i64, .int .i64]) (w : HO []) (K : List SV → List Ob → Option R) : Option R := f_spec_l8Sum k v.1 v.2.1 (fun r0 => K [.bool r0] [])
noncomputable def F_spec_l8Sum {R : Type} (k : Nat) : CF R := wrapF [.int .i64, .int .i64] [] (g_spec_l8Sum k)
noncomputable def A_spec_l8Sum : Ann := { pre := nats [], cut := look [], frz := fun i => match look [] i with | some l => l | none => [], fz := nats [], out := outOf [] (some [4]) }
noncomputable def T_spec_l8Sum {R : Type} (k : Nat) : List (Nat × (Bool × CF R)) := [(38, (false, (F_spec_l6In k)))]
noncomputable def L_spec_l8Sum {R : Type} (k : Nat) (c : Code) (s : St) (K : Exit → St → Option R) : Option R := none
theorem hT_spec_l8Sum {R : Type} (k : Nat) : TabOk tyE.P (T_spec_l8Sum (R := R) k) := ⟨(good_spec_l6In k), trivial⟩
theorem hg_spec_l8Sum {R : Type} (k : Nat) (K : List SV → List Ob → Option R) : ∀ v w, g_spec_l8Sum k v w K = runF (look (T_spec_l8Sum k)) tyE A_spec_l8Sum (nats []) (L_spec_l8Sum k) (Func.ntmps Try.f29) [.tmp 4] (bodyOf Try.f29) [.int .i64, .int .i64] [] [.bool] v w K := by
  rintro ⟨x0, x1, _⟩ _
  kernel_rfl
theorem good_spec_l8Sum {R : Type} (k : Nat) : Good tyE.P 29 false (F_spec_l8Sum (R := R) k) :=
  fn_good tyE_ok (tab_ok (hT_spec_l8Sum k)) A_spec_l8Sum (nats []) (fn := Try.f29) (c := bodyOf Try.f29) (rs := [.tmp 4]) (by kernel_rfl) (by kernel_rfl) (by kernel_rfl) (by kernel_rfl) (L := L_spec_l8Sum k) (loops_nil (R := R) (by kernel_rfl)) [.int .i64, .int .i64] [] [.bool] (g_spec_l8Sum k) fun v w K r h => hg_spec_l8Sum k K v w ▸ h


/-! "loop.example/localglobal/spec.l5Root" -/
noncomputable def l_spec_l5Root_3 {R : Type} (k : Nat) : Nat → Int → Int → Int → (Int → Int → Option R) → Option R
  | 0, _, _, _, _ => none
  | n + 1, v1, v2, v3, K0 => cond (decide (v2 < v3)) (cond (decide ((IntKind.wrap .i64 ((IntKind.wrap .i64 (Int.tdiv (IntKind.wrap .i64 (v2 + v3)) 2)) * (IntKind.wrap .i64 (Int.tdiv (IntKind.wrap .i64 (v2 + v3)) 2)))) < v1)) (l_spec_l5Root_3 k n v1 (IntKind.wrap .i64 ((IntKind.wrap .i64 (Int.tdiv (IntKind.wrap .i64 (v2 + v3)) 2)) + 1)) v3 K0) (l_spec_l5Root_3 k n v1 v2 (IntKind.wrap .i64 (Int.tdiv (IntKind.wrap .i64 (v2 + v3)) 2)) K0)) (K0 v1 v2)

noncomputable def f_spec_l5Root {R : Type} (k : Nat) (a0 : Int) (K : Int → Option R) : Option R :=
  l_spec_l5Root_3 k k a0 0 1048576 (fun y4 y5 => cond (decide ((IntKind.wrap .i64 (y5 * y5)) = y4)) (K y5) (K (-1)))


noncomputable def g_spec_l5Root {R : Type} (k : Nat) (v : HT [.int .i64]) (w : HO []) (K : List SV → List Ob → Option R) : Option R := f_spec_l5Root k v.1 (fun r0 => K [.int .i64 r0] [])
noncomputable def F_spec_l5Root {R : Type} (k : Nat) : CF R := wrapF [.int .i64] [] (g_spec_l5Root k)
noncomputable def A_spec_l5Root : Ann := { pre := nats [], cut := look [(3, [0, 3, 4])], frz := fun i => match look [] i with | some l => l | none => [], fz := nats [], out := outOf [(0, [0, 3])] (some [2]) }
noncomputable def T_spec_l5Root {R : Type} (k : Nat) : List (Nat × (Bool × CF R)) := []
noncomputable abbrev h_spec_l5Root_3 : Shape := ⟨[(0, .int .i64), (3, .int .i64), (4, .int .i64)], []⟩
noncomputable def lf_spec_l5Root_3 {R : Type} (k : Nat) (n : Nat) (v : h_spec_l5Root_3.T) (K : Exit → St → Option R) : Option R := l_spec_l5Root_3 k n v.1.1 v.1.2.1 v.1.2.2.1 (fun y0 y1 => K (.exit 0) ⟨[(0, .s (.int .i64 y0)), (3, .s (.int .i64 y1))], []⟩)
noncomputable def L_spec_l5Root {R : Type} (k : Nat) (c : Code) (s : St) (K : Exit → St → Option R) : Option R := cond (Nat.beq (firstReg c) 3) ((h_spec_l5Root_3.dec (cutAt A_spec_l5Root c s)).bind fun v => lf_spec_l5Root_3 k k v K) (none)
theorem hT_spec_l5Root {R : Type} (k : Nat) : TabOk tyE.P (T_spec_l5Root (R := R) k) := trivial
noncomputable def b_spec_l5Root_3 : Code := nthLoop (bodyOf Try.f67) 0
theorem hs_spec_l5Root_3 {R : Type} (k : Nat) (n : Nat) (K : Exit → St → Option R) : ∀ v, lf_spec_l5Root_3 k (n + 1) v K = evk (look (T_spec_l5Root k)) tyE A_spec_l5Root (Func.ntmps Try.f67) (drawn (look (T_spec_l5Root k)) tyE A_spec_l5Root (nats []) (Func.ntmps Try.f67)) (L_spec_l5Root k) b_spec_l5Root_3 (h_spec_l5Root_3.enc v) (loopK A_spec_l5Root b_spec_l5Root_3 h_spec_l5Root_3.dec (lf_spec_l5Root_3 k) n K) := by
  rintro ⟨⟨x0, x1, x2, _⟩, _⟩
  kernel_rfl
theorem lo_spec_l5Root_3 {R : Type} (k : Nat) : LoopOk tyE.P (Func.ntmps Try.f67) (L_spec_l5Root (R := R) k) b_spec_l5Root_3 :=
  fn_loop tyE_ok (tab_ok (hT_spec_l5Root k)) A_spec_l5Root (nats []) (loops_nil (R := R) (by kernel_rfl)) h_spec_l5Root_3 (lf_spec_l5Root_3 k) k (fun s K => by kernel_rfl) (fun v K => by kernel_rfl) fun n v K r h => hs_spec_l5Root_3 k n K v ▸ h
theorem hg_spec_l5Root {R : Type} (k : Nat) (K : List SV → List Ob → Option R) : ∀ v w, g_spec_l5Root k v w K = runF (look (T_spec_l5Root k)) tyE A_spec_l5Root (nats []) (L_spec_l5Root k) (Func.ntmps Try.f67) [.tmp 2] (bodyOf Try.f67) [.int .i64] [] [.int .i64] v w K := by
  rintro ⟨x0, _⟩ _
  kernel_rfl
theorem good_spec_l5Root {R : Type} (k : Nat) : Good tyE.P 67 false (F_spec_l5Root (R := R) k) :=
  fn_good tyE_ok (tab_ok (hT_spec_l5Root k)) A_spec_l5Root (nats []) (fn := Try.f67) (c := bodyOf Try.f67) (rs := [.tmp 2]) (by kernel_rfl) (by kernel_rfl) (by kernel_rfl) (by kernel_rfl) (L := L_spec_l5Root k) (loops_one (R := R) (by kernel_rfl) (lo_spec_l5Root_3 k)) [.int .i64] [] [.int .i64] (g_spec_l5Root k) fun v w K r h => hg_spec_l5Root k K v w ▸ h


/-! "loop.example/localglobal/spec.l8Two" -/
noncomputable def l_spec_l8Two_3 {R : Type} (k : Nat) : Nat → Int → Int → Int → (Int → Option R) → Option R
  | 0, _, _, _, _ => none
  | n + 1, v1, v2, v3, K0 => cond (decide ((IntKind.wrap .i64 (v3 * v3)) ≤ v1)) (f_spec_l5Root k (IntKind.wrap .i64 (v1 - (IntKind.wrap .i64 (v3 * v3)))) (fun r4 => cond (decide (0 ≤ r4)) (cond (decide (0 < v3)) (cond (decide (0 < r4)) (l_spec_l8Two_3 k n v1 (IntKind.wrap .i64 (v2 + (IntKind.wrap .i64 (2 * 2)))) (IntKind.wrap .i64 (v3 + 1)) K0) (l_spec_l8Two_3 k n v1 (IntKind.wrap .i64 (v2 + 2)) (IntKind.wrap .i64 (v3 + 1)) K0)) (cond (decide (0 < r4)) (l_spec_l8Two_3 k n v1 (IntKind.wrap .i64 (v2 + (IntKind.wrap .i64 (2 * 1)))) (IntKind.wrap .i64 (v3 + 1)) K0) (l_spec_l8Two_3 k n v1 (IntKind.wrap .i64 (v2 + 1)) (IntKind.wrap .i64 (v3 + 1)) K0))) (l_spec_l8Two_3 k n v1 v2 (IntKind.wrap .i64 (v3 + 1)) K0))) (K0 v2)

noncomputable def f_spec_l8Two {R : Type} (k : Nat) (a0 : Int) (K : Int → Option R) : Option R :=
  l_spec_l8Two_3 k k a0 0 0 (fun y5 => K y5)


noncomputable def g_spec_l8Two {R : Type} (k : Nat) (v : HT [.int .i64]) (w : HO []) (K : List SV → List Ob → Option R) : Option R := f_spec_l8Two k v.1 (fun r0 => K [.int .i64 r0] [])
noncomputable def F_spec_l8Two {R : Type} (k : Nat) : CF R := wrapF [.int .i64] [] (g_spec_l8Two k)
noncomputable def A_spec_l8Two : Ann := { pre := nats [], cut := look [(3, [0, 3, 4])], frz := fun i => match look [] i with | some l => l | none => [], fz := nats [], out := outOf [(0, [3])] (some [2]) }
noncomputable def T_spec_l8Two {R : Type} (k : Nat) : List (Nat × (Bool × CF R)) := [(67, (false, (F_spec_l5Root k)))]
noncomputable abbrev h_spec_l8Two_3 : Shape := ⟨[(0, .int .i64), (3, .int .i64), (4, .int .i64)], []⟩
noncomputable def lf_spec_l8Two_3 {R : Type} (k : Nat) (n : Nat) (v : h_spec_l8Two_3.T) (K : Exit → St → Option R) : Option R := l_spec_l8Two_3 k n v.1.1 v.1.2.1 v.1.2.2.1 (fun y0 => K (.exit 0) ⟨[(3, .s (.int .i64 y0))], []⟩)
noncomputable def L_spec_l8Two {R : Type} (k : Nat) (c : Code) (s : St) (K : Exit → St → Option R) : Option R := cond (Nat.beq (firstReg c) 3) ((h_spec_l8Two_3.dec (cutAt A_spec_l8Two c s)).bind fun v => lf_spec_l8Two_3 k k v K) (none)
theorem hT_spec_l8Two {R : Type} (k : Nat) : TabOk tyE.P (T_spec_l8Two (R := R) k) := ⟨(good_spec_l5Root k), trivial⟩
noncomputable def b_spec_l8Two_3 : Code := nthLoop (bodyOf Try.f30) 0
theorem hs_spec_l8Two_3 {R : Type} (k : Nat) (n : Nat) (K : Exit → St → Option R) : ∀ v, lf_spec_l8Two_3 k (n + 1) v K = evk (look (T_spec_l8Two k)) tyE A_spec_l8Two (Func.ntmps Try.f30) (drawn (look (T_spec_l8Two k)) tyE A_spec_l8Two (nats []) (Func.ntmps Try.f30)) (L_spec_l8Two k) b_spec_l8Two_3 (h_spec_l8Two_3.enc v) (loopK A_spec_l8Two b_spec_l8Two_3 h_spec_l8Two_3.dec (lf_spec_l8Two_3 k) n K) := by
  rintro ⟨⟨x0, x1, x2, _⟩, _⟩
  kernel_rfl
theorem lo_spec_l8Two_3 {R : Type} (k : Nat) : LoopOk tyE.P (Func.ntmps Try.f30) (L_spec_l8Two (R := R) k) b_spec_l8Two_3 :=
  fn_loop tyE_ok (tab_ok (hT_spec_l8Two k)) A_spec_l8Two (nats []) (loops_nil (R := R) (by kernel_rfl)) h_spec_l8Two_3 (lf_spec_l8Two_3 k) k (fun s K => by kernel_rfl) (fun v K => by kernel_rfl) fun n v K r h => hs_spec_l8Two_3 k n K v ▸ h
theorem hg_spec_l8Two {R : Type} (k : Nat) (K : List SV → List Ob → Option R) : ∀ v w, g_spec_l8Two k v w K = runF (look (T_spec_l8Two k)) tyE A_spec_l8Two (nats []) (L_spec_l8Two k) (Func.ntmps Try.f30) [.tmp 2] (bodyOf Try.f30) [.int .i64] [] [.int .i64] v w K := by
  rintro ⟨x0, _⟩ _
  kernel_rfl
theorem good_spec_l8Two {R : Type} (k : Nat) : Good tyE.P 30 false (F_spec_l8Two (R := R) k) :=
  fn_good tyE_ok (tab_ok (hT_spec_l8Two k)) A_spec_l8Two (nats []) (fn := Try.f30) (c := bodyOf Try.f30) (rs := [.tmp 2]) (by kernel_rfl) (by kernel_rfl) (by kernel_rfl) (by kernel_rfl) (L := L_spec_l8Two k) (loops_one (R := R) (by kernel_rfl) (lo_spec_l8Two_3 k)) [.int .i64] [] [.int .i64] (g_spec_l8Two k) fun v w K r h => hg_spec_l8Two k K v w ▸ h


/-! "loop.example/localglobal/spec.TwoEach" -/
noncomputable def f_spec_TwoEach {R : Type} (k : Nat) (a0 : Int) (K : Int → Option R) : Option R :=
  f_spec_l8Sum k a0 0 (fun r1 => cond (!(r1)) (K (-1)) (f_spec_l8Two k a0 (fun r2 => K r2)))


noncomputable def g_spec_TwoEach {R : Type} (k : Nat) (v : HT [.int .i64]) (w : HO []) (K : List SV → List Ob → Option R) : Option R := f_spec_TwoEach k v.1 (fun r0 => K [.int .i64 r0] [])
noncomputable def F_spec_TwoEach {R : Type} (k : Nat) : CF R := wrapF [.int .i64] [] (g_spec_TwoEach k)
noncomputable def A_spec_TwoEach : Ann := { pre := nats [], cut := look [], frz := fun i => match look [] i with | some l => l | none => [], fz := nats [], out := outOf [] (some [2]) }
noncomputable def T_spec_TwoEach {R : Type} (k : Nat) : List (Nat × (Bool × CF R)) := [(29, (false, (F_spec_l8Sum k))), (30, (false, (F_spec_l8Two k)))]
noncomputable def L_spec_TwoEach {R : Type} (k : Nat) (c : Code) (s : St) (K : Exit → St → Option R) : Option R := none
theorem hT_spec_TwoEach {R : Type} (k : Nat) : TabOk tyE.P (T_spec_TwoEach (R := R) k) := ⟨(good_spec_l8Sum k), (good_spec_l8Two k), trivial⟩
theorem hg_spec_TwoEach {R : Type} (k : Nat) (K : List SV → List Ob → Option R) : ∀ v w, g_spec_TwoEach k v w K = runF (look (T_spec_TwoEach k)) tyE A_spec_TwoEach (nats []) (L_spec_TwoEach k) (Func.ntmps Try.f10) [.tmp 2] (bodyOf Try.f10) [.int .i64] [] [.int .i64] v w K := by
  rintro ⟨x0, _⟩ _
  kernel_rfl
theorem good_spec_TwoEach {R : Type} (k : Nat) : Good tyE.P 10 false (F_spec_TwoEach (R := R) k) :=
  fn_good tyE_ok (tab_ok (hT_spec_TwoEach k)) A_spec_TwoEach (nats []) (fn := Try.f10) (c := bodyOf Try.f10) (rs := [.tmp 2]) (by kernel_rfl) (by kernel_rfl) (by kernel_rfl) (by kernel_rfl) (L := L_spec_TwoEach k) (loops_nil (R := R) (by kernel_rfl)) [.int .i64] [] [.int .i64] (g_spec_TwoEach k) fun v w K r h => hg_spec_TwoEach k K v w ▸ h


/-! "loop.example/localglobal/impl.size" -/
noncomputable def f_impl_size {R : Type} (k : Nat) (a0 : Int) (K : Int → Option R) : Option R :=
  K (cond (decide (a0 < (IntKind.wrap .i64 (0 - a0)))) (IntKind.wrap .i64 (0 - a0)) a0)


noncomputable def g_impl_size {R : Type} (k : Nat) (v : HT [.int .i64]) (w : HO []) (K : List SV → List Ob → Option R) : Option R := f_impl_size k v.1 (fun r0 => K [.int .i64 r0] [])
noncomputable def F_impl_size {R : Type} (k : Nat) : CF R := wrapF [.int .i64] [] (g_impl_size k)
noncomputable def A_impl_size : Ann := { pre := nats [], cut := look [], frz := fun i => match look [] i with | some l => l | none => [], fz := nats [], out := outOf [] (some [2]) }
noncomputable def T_impl_size {R : Type} (k : Nat) : List (Nat × (Bool × CF R)) := []
noncomputable def L_impl_size {R : Type} (k : Nat) (c : Code) (s : St) (K : Exit → St → Option R) : Option R := none
theorem hT_impl_size {R : Type} (k : Nat) : TabOk tyE.P (T_impl_size (R := R) k) := trivial
theorem hg_impl_size {R : Type} (k : Nat) (K : List SV → List Ob → Option R) : ∀ v w, g_impl_size k v w K = runF (look (T_impl_size k)) tyE A_impl_size (nats []) (L_impl_size k) (Func.ntmps Try.f48) [.tmp 2] (bodyOf Try.f48) [.int .i64] [] [.int .i64] v w K := by
  rintro ⟨x0, _⟩ _
  kernel_rfl
theorem good_impl_size {R : Type} (k : Nat) : Good tyE.P 48 false (F_impl_size (R := R) k) :=
  fn_good tyE_ok (tab_ok (hT_impl_size k)) A_impl_size (nats []) (fn := Try.f48) (c := bodyOf Try.f48) (rs := [.tmp 2]) (by kernel_rfl) (by kernel_rfl) (by kernel_rfl) (by kernel_rfl) (L := L_impl_size k) (loops_nil (R := R) (by kernel_rfl)) [.int .i64] [] [.int .i64] (g_impl_size k) fun v w K r h => hg_impl_size k K v w ▸ h


/-! "loop.example/localglobal/impl.FormValid" -/
noncomputable def l_impl_FormValid_2 {R : Type} (k : Nat) : Nat → List Int → List Int → Int → Int → (Bool → Option R) → (List Int → Option R) → Option R
  | 0, _, _, _, _, _, _ => none
  | n + 1, v1, v2, v3, v4, K0, K1 => cond (decide (v4 < v3)) (cond (decide (0 ≤ v4) && decide (v4 < ((v2).length : Int))) (cond (decide ((List.getD v2 (Int.toNat v4) 0) = 0)) (K0 false) (f_impl_size k (List.getD v2 (Int.toNat v4) 0) (fun r5 => cond (decide (30 < r5)) (K0 false) (l_impl_FormValid_2 k n v1 v2 v3 (IntKind.wrap .i64 (v4 + 1)) K0 K1)))) none) (K1 v1)

noncomputable def f_impl_FormValid {R : Type} (k : Nat) (a0 : List Int) (K : Bool → Option R) : Option R :=
  l_impl_FormValid_2 k k a0 a0 (a0.length : Int) 0 (fun y6 => K y6) (fun y7 => cond (decide (1 ≤ (y7.length : Int))) (K (decide ((y7.length : Int) ≤ 4))) (K false))


noncomputable def g_impl_FormValid {R : Type} (k : Nat) (v : HT [.sl true 3 (.int .i64)]) (w : HO []) (K : List SV → List Ob → Option R) : Option R := f_impl_FormValid k v.1 (fun r0 => K [.bool r0] [])
noncomputable def F_impl_FormValid {R : Type} (k : Nat) : CF R := wrapF [.sl true 3 (.int .i64)] [] (g_impl_FormValid k)
noncomputable def A_impl_FormValid : Ann := { pre := nats [], cut := look [(2, [0, 5, 6, 7])], frz := fun i => match look [] i with | some l => l | none => [], fz := nats [], out := outOf [(0, [0])] (some [2]) }
noncomputable def T_impl_FormValid {R : Type} (k : Nat) : List (Nat × (Bool × CF R)) := [(48, (false, (F_impl_size k)))]
noncomputable abbrev h_impl_FormValid_2 : Shape := ⟨[(0, .sl true 3 (.int .i64)), (5, .sl true 3 (.int .i64)), (6, .int .i64), (7, .int .i64)], []⟩
noncomputable def lf_impl_FormValid_2 {R : Type} (k : Nat) (n : Nat) (v : h_impl_FormValid_2.T) (K : Exit → St → Option R) : Option R := l_impl_FormValid_2 k n v.1.1 v.1.2.1 v.1.2.2.1 v.1.2.2.2.1 (fun y0 => K (.ret) ⟨[(2, .s (.bool y0))], []⟩) (fun y0 => K (.exit 0) ⟨[(0, .s (.sl true 3 (.int .i64) y0))], []⟩)
noncomputable def L_impl_FormValid {R : Type} (k : Nat) (c : Code) (s : St) (K : Exit → St → Option R) : Option R := cond (Nat.beq (firstReg c) 2) ((h_impl_FormValid_2.dec (cutAt A_impl_FormValid c s)).bind fun v => lf_impl_FormValid_2 k k v K) (none)
theorem hT_impl_FormValid {R : Type} (k : Nat) : TabOk tyE.P (T_impl_FormValid (R := R) k) := ⟨(good_impl_size k), trivial⟩
noncomputable def b_impl_FormValid_2 : Code := nthLoop (bodyOf Try.f31) 0
theorem hs_impl_FormValid_2 {R : Type} (k : Nat) (n : Nat) (K : Exit → St → Option R) : ∀ v, lf_impl_FormValid_2 k (n + 1) v K = evk (look (T_impl_FormValid k)) tyE A_impl_FormValid (Func.ntmps Try.f31) (drawn (look (T_impl_FormValid k)) tyE A_impl_FormValid (nats []) (Func.ntmps Try.f31)) (L_impl_FormValid k) b_impl_FormValid_2 (h_impl_FormValid_2.enc v) (loopK A_impl_FormValid b_impl_FormValid_2 h_impl_FormValid_2.dec (lf_impl_FormValid_2 k) n K) := by
  rintro ⟨⟨x0, x1, x2, x3, _⟩, _⟩
  kernel_rfl
theorem lo_impl_FormValid_2 {R : Type} (k : Nat) : LoopOk tyE.P (Func.ntmps Try.f31) (L_impl_FormValid (R := R) k) b_impl_FormValid_2 :=
  fn_loop tyE_ok (tab_ok (hT_impl_FormValid k)) A_impl_FormValid (nats []) (loops_nil (R := R) (by kernel_rfl)) h_impl_FormValid_2 (lf_impl_FormValid_2 k) k (fun s K => by kernel_rfl) (fun v K => by kernel_rfl) fun n v K r h => hs_impl_FormValid_2 k n K v ▸ h
theorem hg_impl_FormValid {R : Type} (k : Nat) (K : List SV → List Ob → Option R) : ∀ v w, g_impl_FormValid k v w K = runF (look (T_impl_FormValid k)) tyE A_impl_FormValid (nats []) (L_impl_FormValid k) (Func.ntmps Try.f31) [.tmp 2] (bodyOf Try.f31) [.sl true 3 (.int .i64)] [] [.bool] v w K := by
  rintro ⟨x0, _⟩ _
  kernel_rfl
theorem good_impl_FormValid {R : Type} (k : Nat) : Good tyE.P 31 false (F_impl_FormValid (R := R) k) :=
  fn_good tyE_ok (tab_ok (hT_impl_FormValid k)) A_impl_FormValid (nats []) (fn := Try.f31) (c := bodyOf Try.f31) (rs := [.tmp 2]) (by kernel_rfl) (by kernel_rfl) (by kernel_rfl) (by kernel_rfl) (L := L_impl_FormValid k) (loops_one (R := R) (by kernel_rfl) (lo_impl_FormValid_2 k)) [.sl true 3 (.int .i64)] [] [.bool] (g_impl_FormValid k) fun v w K r h => hg_impl_FormValid k K v w ▸ h


/-! "loop.example/localglobal/impl.pair" -/
noncomputable def l_impl_pair_3 {R : Type} (k : Nat) : Nat → List Int → List Int → Int → List Int → Int → Int → (Int → Option R) → Option R
  | 0, _, _, _, _, _, _, _ => none
  | n + 1, v1, v2, v3, v4, v5, v6, K0 => cond (decide (v6 < v5)) (cond (decide (0 ≤ v6) && decide (v6 < ((v4).length : Int))) (cond (decide (0 ≤ v6) && decide (v6 < ((v1).length : Int))) (cond (decide (0 ≤ v6) && decide (v6 < ((v2).length : Int))) (l_impl_pair_3 k n v1 v2 (IntKind.wrap .i64 (v3 + (IntKind.wrap .i64 ((IntKind.wrap .i64 ((List.getD v4 (Int.toNat v6) 0) * (List.getD v1 (Int.toNat v6) 0))) * (List.getD v2 (Int.toNat v6) 0))))) v4 v5 (IntKind.wrap .i64 (v6 + 1)) K0) none) none) none) (K0 v3)

noncomputable def f_impl_pair {R : Type} (k : Nat) (a0 : List Int) (a1 : List Int) (a2 : List Int) (K : Int → Option R) : Option R :=
  l_impl_pair_3 k k a1 a2 0 a0 (a0.length : Int) 0 (fun y7 => K y7)


noncomputable def g_impl_pair {R : Type} (k : Nat) (v : HT [.sl true 3 (.int .i64), .sl true 3 (.int .i64), .sl true 3 (.int .i64)]) (w : HO []) (K : List SV → List Ob → Option R) : Option R := f_impl_pair k v.1 v.2.1 v.2.2.1 (fun r0 => K [.int .i64 r0] [])
noncomputable def F_impl_pair {R : Type} (k : Nat) : CF R := wrapF [.sl true 3 (.int .i64), .sl true 3 (.int .i64), .sl true 3 (.int .i64)] [] (g_impl_pair k)
noncomputable def A_impl_pair : Ann := { pre := nats [], cut := look [(3, [1, 2, 7, 10, 11, 12])], frz := fun i => match look [] i with | some l => l | none => [], fz := nats [], out := outOf [(0, [7])] (some [6]) }
noncomputable def T_impl_pair {R : Type} (k : Nat) : List (Nat × (Bool × CF R)) := []
noncomputable abbrev h_impl_pair_3 : Shape := ⟨[(1, .sl true 3 (.int .i64)), (2, .sl true 3 (.int .i64)), (7, .int .i64), (10, .sl true 3 (.int .i64)), (11, .int .i64), (12, .int .i64)], []⟩
noncomputable def lf_impl_pair_3 {R : Type} (k : Nat) (n : Nat) (v : h_impl_pair_3.T) (K : Exit → St → Option R) : Option R := l_impl_pair_3 k n v.1.1 v.1.2.1 v.1.2.2.1 v.1.2.2.2.1 v.1.2.2.2.2.1 v.1.2.2.2.2.2.1 (fun y0 => K (.exit 0) ⟨[(7, .s (.int .i64 y0))], []⟩)
noncomputable def L_impl_pair {R : Type} (k : Nat) (c : Code) (s : St) (K : Exit → St → Option R) : Option R := cond (Nat.beq (firstReg c) 3) ((h_impl_pair_3.dec (cutAt A_impl_pair c s)).bind fun v => lf_impl_pair_3 k k v K) (none)
theorem hT_impl_pair {R : Type} (k : Nat) : TabOk tyE.P (T_impl_pair (R := R) k) := trivial
noncomputable def b_impl_pair_3 : Code := nthLoop (bodyOf Try.f34) 0
theorem hs_impl_pair_3 {R : Type} (k : Nat) (n : Nat) (K : Exit → St → Option R) : ∀ v, lf_impl_pair_3 k (n + 1) v K = evk (look (T_impl_pair k)) tyE A_impl_pair (Func.ntmps Try.f34) (drawn (look (T_impl_pair k)) tyE A_impl_pair (nats []) (Func.ntmps Try.f34)) (L_impl_pair k) b_impl_pair_3 (h_impl_pair_3.enc v) (loopK A_impl_pair b_impl_pair_3 h_impl_pair_3.dec (lf_impl_pair_3 k) n K) := by
  rintro ⟨⟨x0, x1, x2, x3, x4, x5, _⟩, _⟩
  kernel_rfl
theorem lo_impl_pair_3 {R : Type} (k : Nat) : LoopOk tyE.P (Func.ntmps Try.f34) (L_impl_pair (R := R) k) b_impl_pair_3 :=
  fn_loop tyE_ok (tab_ok (hT_impl_pair k)) A_impl_pair (nats []) (loops_nil (R := R) (by kernel_rfl)) h_impl_pair_3 (lf_impl_pair_3 k) k (fun s K => by kernel_rfl) (fun v K => by kernel_rfl) fun n v K r h => hs_impl_pair_3 k n K v ▸ h
theorem hg_impl_pair {R : Type} (k : Nat) (K : List SV → List Ob → Option R) : ∀ v w, g_impl_pair k v w K = runF (look (T_impl_pair k)) tyE A_impl_pair (nats []) (L_impl_pair k) (Func.ntmps Try.f34) [.tmp 6] (bodyOf Try.f34) [.sl true 3 (.int .i64), .sl true 3 (.int .i64), .sl true 3 (.int .i64)] [] [.int .i64] v w K := by
  rintro ⟨x0, x1, x2, _⟩ _
  kernel_rfl
theorem good_impl_pair {R : Type} (k : Nat) : Good tyE.P 34 false (F_impl_pair (R := R) k) :=
  fn_good tyE_ok (tab_ok (hT_impl_pair k)) A_impl_pair (nats []) (fn := Try.f34) (c := bodyOf Try.f34) (rs := [.tmp 6]) (by kernel_rfl) (by kernel_rfl) (by kernel_rfl) (by kernel_rfl) (L := L_impl_pair k) (loops_one (R := R) (by kernel_rfl) (lo_impl_pair_3 k)) [.sl true 3 (.int .i64), .sl true 3 (.int .i64), .sl true 3 (.int .i64)] [] [.int .i64] (g_impl_pair k) fun v w K r h => hg_impl_pair k K v w ▸ h


/-! "loop.example/localglobal/impl.ValueMany$1" -/
noncomputable def f_impl_ValueMany_1 {R : Type} (k : Nat) (a0 : List Int) (c0_0 : List Int) (c1_0 : Int) (c2_0 : Int) (K : List Int → Int → Int → Option R) : Option R :=
  f_impl_pair k c0_0 a0 a0 (fun r1 => cond (decide (r1 = c1_0)) (K c0_0 c1_0 (IntKind.wrap .i64 (c2_0 + 1))) (K c0_0 c1_0 c2_0))


noncomputable def g_impl_ValueMany_1 {R : Type} (k : Nat) (v : HT [.sl true 3 (.int .i64), .ref 0 0, .ref 1 0, .ref 2 0]) (w : HO [.cells 26 [.sl false 3 (.int .i64)], .cells 3 [.int .i64], .cells 3 [.int .i64]]) (K : List SV → List Ob → Option R) : Option R := f_impl_ValueMany_1 k v.1 w.1.1 w.2.1.1 w.2.2.1.1 (fun r0 r1 r2 => K [] [.cells 26 [.sl false 3 (.int .i64) r0], .cells 3 [.int .i64 r1], .cells 3 [.int .i64 r2]])
noncomputable def F_impl_ValueMany_1 {R : Type} (k : Nat) : CF R := wrapF [.sl true 3 (.int .i64), .ref 0 0, .ref 1 0, .ref 2 0] [.cells 26 [.sl false 3 (.int .i64)], .cells 3 [.int .i64], .cells 3 [.int .i64]] (g_impl_ValueMany_1 k)
noncomputable def A_impl_ValueMany_1 : Ann := { pre := nats [], cut := look [], frz := fun i => match look [] i with | some l => l | none => [], fz := nats [], out := outOf [] (some []) }
noncomputable def T_impl_ValueMany_1 {R : Type} (k : Nat) : List (Nat × (Bool × CF R)) := [(34, (false, (F_impl_pair k)))]
noncomputable def L_impl_ValueMany_1 {R : Type} (k : Nat) (c : Code) (s : St) (K : Exit → St → Option R) : Option R := none
theorem hT_impl_ValueMany_1 {R : Type} (k : Nat) : TabOk tyE.P (T_impl_ValueMany_1 (R := R) k) := ⟨(good_impl_pair k), trivial⟩
theorem hg_impl_ValueMany_1 {R : Type} (k : Nat) (K : List SV → List Ob → Option R) : ∀ v w, g_impl_ValueMany_1 k v w K = runF (look (T_impl_ValueMany_1 k)) tyE A_impl_ValueMany_1 (nats []) (L_impl_ValueMany_1 k) (Func.ntmps Try.f33) [] (bodyOf Try.f33) [.sl true 3 (.int .i64), .ref 0 0, .ref 1 0, .ref 2 0] [.cells 26 [.sl false 3 (.int .i64)], .cells 3 [.int .i64], .cells 3 [.int .i64]] [] v w K := by
  rintro ⟨x0, x1, x2, x3, _⟩ ⟨⟨z0_0, _⟩, ⟨z1_0, _⟩, ⟨z2_0, _⟩, _⟩
  kernel_rfl
theorem good_impl_ValueMany_1 {R : Type} (k : Nat) : Good tyE.P 33 false (F_impl_ValueMany_1 (R := R) k) :=
  fn_good tyE_ok (tab_ok (hT_impl_ValueMany_1 k)) A_impl_ValueMany_1 (nats []) (fn := Try.f33) (c := bodyOf Try.f33) (rs := []) (by kernel_rfl) (by kernel_rfl) (by kernel_rfl) (by kernel_rfl) (L := L_impl_ValueMany_1 k) (loops_nil (R := R) (by kernel_rfl)) [.sl true 3 (.int .i64), .ref 0 0, .ref 1 0, .ref 2 0] [.cells 26 [.sl false 3 (.int .i64)], .cells 3 [.int .i64], .cells 3 [.int .i64]] [] (g_impl_ValueMany_1 k) fun v w K r h => hg_impl_ValueMany_1 k K v w ▸ h


/-! "loop.example/localglobal/impl.vectors$1" -/
noncomputable def l_impl_vectors_1_3 {R : Type} (k : Nat) (rc : Int → Int → Int → List Int → Int → Int → List Int → (Int → Int → List Int → Int → Int → List Int → Option R) → Option R) : Nat → Int → List Int → Int → Int → List Int → Int → Int → (List Int → Int → Int → List Int → Int → Int → Option R) → Option R
  | 0, _, _, _, _, _, _, _, _ => none
  | n + 1, v4, v5, v6, v7, v8, v9, v10, K0 => cond (decide (0 ≤ v4) && decide (v4 < ((v5).length : Int))) (cond (decide ((List.getD v5 (Int.toNat v4) 0) ≤ v7)) (rc (IntKind.wrap .i64 (v4 + 1)) v6 v7 v8 v9 v10 v5 (fun r11 r12 r13 r14 r15 r16 => cond (decide (0 ≤ v4) && decide (v4 < ((r16).length : Int))) (cond (decide (0 ≤ v4) && decide (v4 < ((r16).length : Int))) (l_impl_vectors_1_3 k rc n v4 (List.set r16 (Int.toNat v4) (IntKind.wrap .i64 ((List.getD r16 (Int.toNat v4) 0) + 1))) r11 r12 r13 r14 r15 K0) none) none)) (K0 v5 v6 v7 v8 v9 v10)) none

noncomputable def f_impl_vectors_1 {R : Type} (k : Nat) : Nat → Int → Int → Int → List Int → Int → Int → List Int → (Int → Int → List Int → Int → Int → List Int → Option R) → Option R
  | 0, _, _, _, _, _, _, _, _ => none
  | d + 1, a0, c0_0, c3_0, c5_0, c6_0, c7_0, c8, K =>
    let rc := f_impl_vectors_1 k d
    cond (decide (a0 = c0_0)) (f_impl_ValueMany_1 k c8 c5_0 c6_0 c7_0 (fun r1 r2 r3 => K c0_0 c3_0 r1 r2 r3 c8)) (cond (decide (0 ≤ a0) && decide (a0 < ((c8).length : Int))) (l_impl_vectors_1_3 k rc k a0 (List.set c8 (Int.toNat a0) (IntKind.wrap .i64 (0 - c3_0))) c0_0 c3_0 c5_0 c6_0 c7_0 (fun y17 y18 y19 y20 y21 y22 => K y18 y19 y20 y21 y22 y17)) none)


noncomputable def g_impl_vectors_1 {R : Type} (k d : Nat) (v : HT [.int .i64, .ref 0 0, .ref 1 0, .ref 2 0, .ref 3 0, .ref 4 0]) (w : HO [.cells 3 [.int .i64], .cells 49 [.clo 33 [5, 6, 7]], .cells 26 [.slo 8], .cells 3 [.int .i64], .cells 68 [.clo 68 [0, 1, 2, 3, 4]], .cells 26 [.sl false 3 (.int .i64)], .cells 3 [.int .i64], .cells 3 [.int .i64], .arr 3 (.int .i64)]) (K : List SV → List Ob → Option R) : Option R := f_impl_vectors_1 k d v.1 w.1.1 w.2.2.2.1.1 w.2.2.2.2.2.1.1 w.2.2.2.2.2.2.1.1 w.2.2.2.2.2.2.2.1.1 w.2.2.2.2.2.2.2.2.1 (fun r0 r1 r2 r3 r4 r5 => K [] [.cells 3 [.int .i64 r0], .cells 49 [.clo 33 [5, 6, 7]], .cells 26 [.slo 8], .cells 3 [.int .i64 r1], .cells 68 [.clo 68 [0, 1, 2, 3, 4]], .cells 26 [.sl false 3 (.int .i64) r2], .cells 3 [.int .i64 r3], .cells 3 [.int .i64 r4], .arr 3 (.int .i64) r5])
noncomputable def F_impl_vectors_1 {R : Type} (k d : Nat) : CF R := wrapF [.int .i64, .ref 0 0, .ref 1 0, .ref 2 0, .ref 3 0, .ref 4 0] [.cells 3 [.int .i64], .cells 49 [.clo 33 [5, 6, 7]], .cells 26 [.slo 8], .cells 3 [.int .i64], .cells 68 [.clo 68 [0, 1, 2, 3, 4]], .cells 26 [.sl false 3 (.int .i64)], .cells 3 [.int .i64], .cells 3 [.int .i64], .arr 3 (.int .i64)] (g_impl_vectors_1 k d)
noncomputable def A_impl_vectors_1 : Ann := { pre := nats [], cut := look [(3, [0, 3, 4, 5])], frz := fun i => match look [] i with | some l => l | none => [], fz := nats [], out := outOf [(0, [])] (some []) }
noncomputable def T_impl_vectors_1 {R : Type} (k d : Nat) : List (Nat × (Bool × CF R)) := [(33, (false, (F_impl_ValueMany_1 k))), (68, (false, (F_impl_vectors_1 k d)))]
noncomputable abbrev h_impl_vectors_1_3 : Shape := ⟨[(0, .int .i64), (3, .ref 2 0), (4, .ref 3 0), (5, .ref 4 0)], [(8, .arr 3 (.int .i64)), (0, .cells 3 [.int .i64]), (1, .cells 49 [.clo 33 [5, 6, 7]]), (2, .cells 26 [.slo 8]), (3, .cells 3 [.int .i64]), (4, .cells 68 [.clo 68 [0, 1, 2, 3, 4]]), (5, .cells 26 [.sl false 3 (.int .i64)]), (6, .cells 3 [.int .i64]), (7, .cells 3 [.int .i64])]⟩
noncomputable def lf_impl_vectors_1_3 {R : Type} (k d : Nat) (n : Nat) (v : h_impl_vectors_1_3.T) (K : Exit → St → Option R) : Option R := l_impl_vectors_1_3 k (f_impl_vectors_1 k d) n v.1.1 v.2.1 v.2.2.1.1 v.2.2.2.2.2.1.1 v.2.2.2.2.2.2.2.1.1 v.2.2.2.2.2.2.2.2.1.1 v.2.2.2.2.2.2.2.2.2.1.1 (fun y0 y1 y2 y3 y4 y5 => K (.exit 0) ⟨[], [(8, .arr 3 (.int .i64) y0), (0, .cells 3 [.int .i64 y1]), (1, .cells 49 [.clo 33 [5, 6, 7]]), (2, .cells 26 [.slo 8]), (3, .cells 3 [.int .i64 y2]), (4, .cells 68 [.clo 68 [0, 1, 2, 3, 4]]), (5, .cells 26 [.sl false 3 (.int .i64) y3]), (6, .cells 3 [.int .i64 y4]), (7, .cells 3 [.int .i64 y5])]⟩)
noncomputable def L_impl_vectors_1 {R : Type} (k d : Nat) (c : Code) (s : St) (K : Exit → St → Option R) : Option R := cond (Nat.beq (firstReg c) 3) ((h_impl_vectors_1_3.dec (cutAt A_impl_vectors_1 c s)).bind fun v => lf_impl_vectors_1_3 k d k v K) (none)
theorem hT_impl_vectors_1 {R : Type} (k d : Nat) (hrec : Good tyE.P 68 false (F_impl_vectors_1 (R := R) k d)) : TabOk tyE.P (T_impl_vectors_1 (R := R) k d) := ⟨(good_impl_ValueMany_1 k), hrec, trivial⟩
noncomputable def b_impl_vectors_1_3 : Code := nthLoop (bodyOf Try.f68) 0
theorem hs_impl_vectors_1_3 {R : Type} (k d : Nat) (n : Nat) (K : Exit → St → Option R) : ∀ v, lf_impl_vectors_1_3 k d (n + 1) v K = evk (look (T_impl_vectors_1 k d)) tyE A_impl_vectors_1 (Func.ntmps Try.f68) (drawn (look (T_impl_vectors_1 k d)) tyE A_impl_vectors_1 (nats []) (Func.ntmps Try.f68)) (L_impl_vectors_1 k d) b_impl_vectors_1_3 (h_impl_vectors_1_3.enc v) (loopK A_impl_vectors_1 b_impl_vectors_1_3 h_impl_vectors_1_3.dec (lf_impl_vectors_1_3 k d) n K) := by
  rintro ⟨⟨x0, _, _, _, _⟩, ⟨x1, ⟨x2, _⟩, ⟨_, _⟩, ⟨_, _⟩, ⟨x3, _⟩, ⟨_, _⟩, ⟨x4, _⟩, ⟨x5, _⟩, ⟨x6, _⟩, _⟩⟩
  kernel_rfl
theorem lo_impl_vectors_1_3 {R : Type} (k d : Nat) (hrec : Good tyE.P 68 false (F_impl_vectors_1 (R := R) k d)) : LoopOk tyE.P (Func.ntmps Try.f68) (L_impl_vectors_1 (R := R) k d) b_impl_vectors_1_3 :=
  fn_loop tyE_ok (tab_ok (hT_impl_vectors_1 k d hrec)) A_impl_vectors_1 (nats []) (loops_nil (R := R) (by kernel_rfl)) h_impl_vectors_1_3 (lf_impl_vectors_1_3 k d) k (fun s K => by kernel_rfl) (fun v K => by kernel_rfl) fun n v K r h => hs_impl_vectors_1_3 k d n K v ▸ h
theorem hg_impl_vectors_1 {R : Type} (k d : Nat) (K : List SV → List Ob → Option R) : ∀ v w, g_impl_vectors_1 k (d + 1) v w K = runF (look (T_impl_vectors_1 k d)) tyE A_impl_vectors_1 (nats []) (L_impl_vectors_1 k d) (Func.ntmps Try.f68) [] (bodyOf Try.f68) [.int .i64, .ref 0 0, .ref 1 0, .ref 2 0, .ref 3 0, .ref 4 0] [.cells 3 [.int .i64], .cells 49 [.clo 33 [5, 6, 7]], .cells 26 [.slo 8], .cells 3 [.int .i64], .cells 68 [.clo 68 [0, 1, 2, 3, 4]], .cells 26 [.sl false 3 (.int .i64)], .cells 3 [.int .i64], .cells 3 [.int .i64], .arr 3 (.int .i64)] [] v w K := by
  rintro ⟨x0, x1, x2, x3, x4, x5, _⟩ ⟨⟨z0_0, _⟩, ⟨z1_0, _⟩, ⟨z2_0, _⟩, ⟨z3_0, _⟩, ⟨z4_0, _⟩, ⟨z5_0, _⟩, ⟨z6_0, _⟩, ⟨z7_0, _⟩, z8, _⟩
  kernel_rfl
theorem good_impl_vectors_1 {R : Type} (k : Nat) : ∀ d, Good tyE.P 68 false (F_impl_vectors_1 (R := R) k d)
  | 0 => none_good (wrap_none _ _ fun v w K => by kernel_rfl)
  | d + 1 => fn_good tyE_ok (tab_ok (hT_impl_vectors_1 k d (good_impl_vectors_1 k d))) A_impl_vectors_1 (nats []) (fn := Try.f68) (c := bodyOf Try.f68) (rs := []) (by kernel_rfl) (by kernel_rfl) (by kernel_rfl) (by kernel_rfl) (L := L_impl_vectors_1 k d) (loops_one (R := R) (by kernel_rfl) (lo_impl_vectors_1_3 k d (good_impl_vectors_1 k d))) [.int .i64, .ref 0 0, .ref 1 0, .ref 2 0, .ref 3 0, .ref 4 0] [.cells 3 [.int .i64], .cells 49 [.clo 33 [5, 6, 7]], .cells 26 [.slo 8], .cells 3 [.int .i64], .cells 68 [.clo 68 [0, 1, 2, 3, 4]], .cells 26 [.sl false 3 (.int .i64)], .cells 3 [.int .i64], .cells 3 [.int .i64], .arr 3 (.int .i64)] [] (g_impl_vectors_1 k (d + 1)) fun v w K r h => hg_impl_vectors_1 k d K v w ▸ h


/-! "loop.example/localglobal/impl.vectors" -/
noncomputable def f_impl_vectors {R : Type} (k : Nat) (a0 : Int) (a1 : Int) (c0_0 : List Int) (c1_0 : Int) (c2_0 : Int) (K : List Int → Int → Int → Option R) : Option R :=
  cond (decide (0 ≤ a0) && decide (a0 ≤ a0) && decide (a0 ≤ 4294967296)) (f_impl_vectors_1 k k 0 a0 a1 c0_0 c1_0 c2_0 (List.replicate (Int.toNat a0) 0) (fun r1 r2 r3 r4 r5 r6 => K r3 r4 r5)) none


noncomputable def g_impl_vectors {R : Type} (k : Nat) (v : HT [.int .i64, .int .i64, .clo 33 [0, 1, 2]]) (w : HO [.cells 26 [.sl false 3 (.int .i64)], .cells 3 [.int .i64], .cells 3 [.int .i64]]) (K : List SV → List Ob → Option R) : Option R := f_impl_vectors k v.1 v.2.1 w.1.1 w.2.1.1 w.2.2.1.1 (fun r0 r1 r2 => K [] [.cells 26 [.sl false 3 (.int .i64) r0], .cells 3 [.int .i64 r1], .cells 3 [.int .i64 r2]])
noncomputable def F_impl_vectors {R : Type} (k : Nat) : CF R := wrapF [.int .i64, .int .i64, .clo 33 [0, 1, 2]] [.cells 26 [.sl false 3 (.int .i64)], .cells 3 [.int .i64], .cells 3 [.int .i64]] (g_impl_vectors k)
noncomputable def A_impl_vectors : Ann := { pre := nats [], cut := look [], frz := fun i => match look [] i with | some l => l | none => [], fz := nats [], out := outOf [] (some []) }
noncomputable def T_impl_vectors {R : Type} (k : Nat) : List (Nat × (Bool × CF R)) := [(68, (false, (F_impl_vectors_1 k k)))]
noncomputable def L_impl_vectors {R : Type} (k : Nat) (c : Code) (s : St) (K : Exit → St → Option R) : Option R := none
theorem hT_impl_vectors {R : Type} (k : Nat) : TabOk tyE.P (T_impl_vectors (R := R) k) := ⟨(good_impl_vectors_1 k k), trivial⟩
theorem hg_impl_vectors {R : Type} (k : Nat) (K : List SV → List Ob → Option R) : ∀ v w, g_impl_vectors k v w K = runF (look (T_impl_vectors k)) tyE A_impl_vectors (nats []) (L_impl_vectors k) (Func.ntmps Try.f32) [] (bodyOf Try.f32) [.int .i64, .int .i64, .clo 33 [0, 1, 2]] [.cells 26 [.sl false 3 (.int .i64)], .cells 3 [.int .i64], .cells 3 [.int .i64]] [] v w K := by
  rintro ⟨x0, x1, x2, _⟩ ⟨⟨z0_0, _⟩, ⟨z1_0, _⟩, ⟨z2_0, _⟩, _⟩
  kernel_rfl
theorem good_impl_vectors {R : Type} (k : Nat) : Good tyE.P 32 false (F_impl_vectors (R := R) k) :=
  fn_good tyE_ok (tab_ok (hT_impl_vectors k)) A_impl_vectors (nats []) (fn := Try.f32) (c := bodyOf Try.f32) (rs := []) (by kernel_rfl) (by kernel_rfl) (by kernel_rfl) (by kernel_rfl) (L := L_impl_vectors k) (loops_nil (R := R) (by kernel_rfl)) [.int .i64, .int .i64, .clo 33 [0, 1, 2]] [.cells 26 [.sl false 3 (.int .i64)], .cells 3 [.int .i64], .cells 3 [.int .i64]] [] (g_impl_vectors k) fun v w K r h => hg_impl_vectors k K v w ▸ h


/-! "loop.example/localglobal/impl.ValueMany" -/
noncomputable def f_impl_ValueMany {R : Type} (k : Nat) (a0 : List Int) (a1 : Int) (a2 : Int) (K : Int → Option R) : Option R :=
  f_impl_FormValid k a0 (fun r1 => cond (!(r1)) (K (-1)) (cond (decide (a1 < (-1000))) (K (-1)) (cond (decide (1000 < a1)) (K (-1)) (cond (decide (a2 < 1)) (K (-1)) (cond (decide (6 < a2)) (K (-1)) (f_impl_vectors k (a0.length : Int) a2 a0 a1 0 (fun r2 r3 r4 => K r4)))))))


noncomputable def g_impl_ValueMany {R : Type} (k : Nat) (v : HT [.sl false 3 (.int .i64), .int .i64, .int .i64]) (w : HO []) (K : List SV → List Ob → Option R) : Option R := f_impl_ValueMany k v.1 v.2.1 v.2.2.1 (fun r0 => K [.int .i64 r0] [])
noncomputable def F_impl_ValueMany {R : Type} (k : Nat) : CF R := wrapF [.sl false 3 (.int .i64), .int .i64, .int .i64] [] (g_impl_ValueMany k)
noncomputable def A_impl_ValueMany : Ann := { pre := nats [], cut := look [], frz := fun i => match look [] i with | some l => l | none => [], fz := nats [], out := outOf [] (some [6]) }
noncomputable def T_impl_ValueMany {R : Type} (k : Nat) : List (Nat × (Bool × CF R)) := [(31, (false, (F_impl_FormValid k))), (32, (false, (F_impl_vectors k)))]
noncomputable def L_impl_ValueMany {R : Type} (k : Nat) (c : Code) (s : St) (K : Exit → St → Option R) : Option R := none
theorem hT_impl_ValueMany {R : Type} (k : Nat) : TabOk tyE.P (T_impl_ValueMany (R := R) k) := ⟨(good_impl_FormValid k), (good_impl_vectors k), trivial⟩
theorem hg_impl_ValueMany {R : Type} (k : Nat) (K : List SV → List Ob → Option R) : ∀ v w, g_impl_ValueMany k v w K = runF (look (T_impl_ValueMany k)) tyE A_impl_ValueMany (nats []) (L_impl_ValueMany k) (Func.ntmps Try.f11) [.tmp 6] (bodyOf Try.f11) [.sl false 3 (.int .i64), .int .i64, .int .i64] [] [.int .i64] v w K := by
  rintro ⟨x0, x1, x2, _⟩ _
  kernel_rfl
theorem good_impl_ValueMany {R : Type} (k : Nat) : Good tyE.P 11 false (F_impl_ValueMany (R := R) k) :=
  fn_good tyE_ok (tab_ok (hT_impl_ValueMany k)) A_impl_ValueMany (nats []) (fn := Try.f11) (c := bodyOf Try.f11) (rs := [.tmp 6]) (by kernel_rfl) (by kernel_rfl) (by kernel_rfl) (by kernel_rfl) (L := L_impl_ValueMany k) (loops_nil (R := R) (by kernel_rfl)) [.sl false 3 (.int .i64), .int .i64, .int .i64] [] [.int .i64] (g_impl_ValueMany k) fun v w K r h => hg_impl_ValueMany k K v w ▸ h


/-! "loop.example/localglobal/laws.FnTwoEach" -/
noncomputable def f_laws_FnTwoEach {R : Type} (k : Nat) (a0 : List Int) (K : Bool → Option R) : Option R :=
  cond (decide (1048576 < (a0.length : Int))) (K true) (f_spec_DrawTwoEach k a0 (fun r1 => f_impl_TwoEach k r1 (fun r2 => f_spec_TwoEach k r1 (fun r3 => cond (!decide (r2 = r3)) (K (decide (r2 = r3))) (cond (decide (r2 < 0)) (K (decide (r2 = r3))) (f_impl_ValueMany k [1, 1] r1 6 (fun r4 => cond (decide (r1 = 0)) (cond (decide (r2 = 1)) (cond (decide (r4 = (-1))) (K true) (cond (decide (r4 ≤ r2)) (cond (decide (49 ≤ r1)) (K true) (K (decide (r4 = r2)))) (K false))) (cond (decide (0 < r1)) (cond (decide ((Int.tmod r2 4) = 0)) (cond (decide (r4 = (-1))) (K true) (cond (decide (r4 ≤ r2)) (cond (decide (49 ≤ r1)) (K true) (K (decide (r4 = r2)))) (K false))) (K false)) (K false))) (cond (decide (0 < r1)) (cond (decide ((Int.tmod r2 4) = 0)) (cond (decide (r4 = (-1))) (K true) (cond (decide (r4 ≤ r2)) (cond (decide (49 ≤ r1)) (K true) (K (decide (r4 = r2)))) (K false))) (K false)) (K false)))))))))


noncomputable def g_laws_FnTwoEach {R : Type} (k : Nat) (v : HT [.sl true 5 (.int .u8)]) (w : HO []) (K : List SV → List Ob → Option R) : Option R := f_laws_FnTwoEach k v.1 (fun r0 => K [.bool r0] [])
noncomputable def F_laws_FnTwoEach {R : Type} (k : Nat) : CF R := wrapF [.sl true 5 (.int .u8)] [] (g_laws_FnTwoEach k)
noncomputable def A_laws_FnTwoEach : Ann := { pre := nats [], cut := look [], frz := fun i => match look [] i with | some l => l | none => [], fz := nats [26], out := outOf [] (some [2]) }
noncomputable def T_laws_FnTwoEach {R : Type} (k : Nat) : List (Nat × (Bool × CF R)) := [(9, (false, (F_impl_TwoEach k))), (11, (false, (F_impl_ValueMany k))), (8, (false, (F_spec_DrawTwoEach k))), (10, (false, (F_spec_TwoEach k)))]
noncomputable def L_laws_FnTwoEach {R : Type} (k : Nat) (c : Code) (s : St) (K : Exit → St → Option R) : Option R := none
theorem hT_laws_FnTwoEach {R : Type} (k : Nat) : TabOk tyE.P (T_laws_FnTwoEach (R := R) k) := ⟨(good_impl_TwoEach k), (good_impl_ValueMany k), (good_spec_DrawTwoEach k), (good_spec_TwoEach k), trivial⟩
theorem hg_laws_FnTwoEach {R : Type} (k : Nat) (K : List SV → List Ob → Option R) : ∀ v w, g_laws_FnTwoEach k v w K = runF (look (T_laws_FnTwoEach k)) tyE A_laws_FnTwoEach (nats []) (L_laws_FnTwoEach k) (Func.ntmps Try.f3) [.tmp 2] (bodyOf Try.f3) [.sl true 5 (.int .u8)] [] [.bool] v w K := by
  rintro ⟨x0, _⟩ _
  kernel_rfl
theorem good_laws_FnTwoEach {R : Type} (k : Nat) : Good tyE.P 3 false (F_laws_FnTwoEach (R := R) k) :=
  fn_good tyE_ok (tab_ok (hT_laws_FnTwoEach k)) A_laws_FnTwoEach (nats []) (fn := Try.f3) (c := bodyOf Try.f3) (rs := [.tmp 2]) (by kernel_rfl) (by kernel_rfl) (by kernel_rfl) (by kernel_rfl) (L := L_laws_FnTwoEach k) (loops_nil (R := R) (by kernel_rfl)) [.sl true 5 (.int .u8)] [] [.bool] (g_laws_FnTwoEach k) fun v w K r h => hg_laws_FnTwoEach k K v w ▸ h


end Go.Proofs.Ytmmadcccjicdcaa.E
