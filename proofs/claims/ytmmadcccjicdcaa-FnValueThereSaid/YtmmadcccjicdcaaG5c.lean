/- The program's functions as plain Lean functions, and that the program comes to what they say. -/
import Derived.Test.YtmmadcccjicdcaaG5b
namespace Go.Proofs.Ytmmadcccjicdcaa.E
set_option linter.unusedVariables false
set_option maxRecDepth 100000

/-! "loop.example/localglobal/spec.l92Form" -/
noncomputable def l_spec_l92Form_2 {R : Type} (k : Nat) : Nat → Int → List Int → Int → List Int → (List Int → Int → List Int → Option R) → Option R
  | 0, _, _, _, _, _ => none
  | n + 1, v4, v5, v6, v7, K0 => cond (decide ((v7.length : Int) < v4)) (cond (decide (0 < (v7.length : Int))) (f_spec_l91Form k 1 v5 v6 (fun r8 r9 r10 => cond (Nat.ble (v7.length + r10.length) LIM) (l_spec_l92Form_2 k n v4 r8 r9 (v7 ++ r10) K0) none)) (K0 v5 v6 v7)) (K0 v5 v6 v7)

noncomputable def f_spec_l92Form {R : Type} (k : Nat) (a1 : Int) (c0_0 : List Int) (c0_1 : Int) (K : List Int → List Int → Int → Option R) : Option R :=
  f_spec_l91Form k 1 c0_0 c0_1 (fun r1 r2 r3 => l_spec_l92Form_2 k k a1 r1 r2 r3 (fun y11 y12 y13 => cond (decide ((y13.length : Int) = 3)) (f_spec_l6Rd_pick k 2 y11 y12 (fun r14 r15 r16 => cond (decide (r14 = 0)) (f_spec_FormValid k y13 (fun r17 => cond (r17) (cond (decide (0 ≤ 0) && decide (0 < ((y13).length : Int))) (f_spec_l6Rd_pick k 2 r15 r16 (fun r18 r19 r20 => cond (decide (0 ≤ 1) && decide (1 < ((y13).length : Int))) (cond (!decide ((IntKind.wrap .i64 ((IntKind.wrap .i64 (0 - (IntKind.wrap .i64 ((List.getD y13 (Int.toNat 0) 0) * (IntKind.wrap .i64 (1 + r18)))))) - (List.getD y13 (Int.toNat 1) 0))) = 0)) (f_spec_l1Size k (IntKind.wrap .i64 ((IntKind.wrap .i64 (0 - (IntKind.wrap .i64 ((List.getD y13 (Int.toNat 0) 0) * (IntKind.wrap .i64 (1 + r18)))))) - (List.getD y13 (Int.toNat 1) 0))) (fun r21 => cond (decide (r21 ≤ 30)) (cond (decide (0 ≤ 2) && decide (2 < ((y13).length : Int))) (K (List.set y13 (Int.toNat 2) (IntKind.wrap .i64 ((IntKind.wrap .i64 (0 - (IntKind.wrap .i64 ((List.getD y13 (Int.toNat 0) 0) * (IntKind.wrap .i64 (1 + r18)))))) - (List.getD y13 (Int.toNat 1) 0)))) r19 r20) none) (K y13 r19 r20))) (K y13 r19 r20)) none)) none) (K y13 r15 r16))) (K y13 r15 r16))) (K y13 y11 y12)))


noncomputable def g_spec_l92Form {R : Type} (k : Nat) (v : HT [.ref 0 0, .int .i64]) (w : HO [.cells 66 [.sl true 5 (.int .u8), .int .i64]]) (K : List SV → List Ob → Option R) : Option R := f_spec_l92Form k v.2.1 w.1.1 w.1.2.1 (fun r0 r1 r2 => K [.sl false 3 (.int .i64) r0] [.cells 66 [.sl true 5 (.int .u8) r1, .int .i64 r2]])
noncomputable def F_spec_l92Form {R : Type} (k : Nat) : CF R := wrapF [.ref 0 0, .int .i64] [.cells 66 [.sl true 5 (.int .u8), .int .i64]] (g_spec_l92Form k)
noncomputable def A_spec_l92Form : Ann := { pre := nats [], cut := look [(2, [0, 1, 5])], frz := fun i => match look [] i with | some l => l | none => [], fz := nats [], out := outOf [(0, [0, 5])] (some [4]) }
noncomputable def T_spec_l92Form {R : Type} (k : Nat) : List (Nat × (Bool × CF R)) := [(37, (false, (F_spec_FormValid k))), (51, (false, (F_spec_l1Size k))), (36, (false, (F_spec_l6Rd_pick k))), (35, (false, (F_spec_l91Form k)))]
noncomputable abbrev h_spec_l92Form_2 : Shape := ⟨[(0, .ref 0 0), (1, .int .i64), (5, .slo 100512)], [(0, .cells 66 [.sl true 5 (.int .u8), .int .i64]), (100512, .arr 3 (.int .i64))]⟩
noncomputable def lf_spec_l92Form_2 {R : Type} (k : Nat) (n : Nat) (v : h_spec_l92Form_2.T) (K : Exit → St → Option R) : Option R := l_spec_l92Form_2 k n v.1.2.1 v.2.1.1 v.2.1.2.1 v.2.2.1 (fun y0 y1 y2 => K (.exit 0) ⟨[(0, .s (.ref 0 0)), (5, .s (.slo 100512))], [(0, .cells 66 [.sl true 5 (.int .u8) y0, .int .i64 y1]), (100512, .arr 3 (.int .i64) y2)]⟩)
noncomputable def L_spec_l92Form {R : Type} (k : Nat) (c : Code) (s : St) (K : Exit → St → Option R) : Option R := cond (Nat.beq (firstReg c) 2) ((h_spec_l92Form_2.dec (cutAt A_spec_l92Form c s)).bind fun v => lf_spec_l92Form_2 k k v K) (none)
theorem hT_spec_l92Form {R : Type} (k : Nat) : TabOk tyE.P (T_spec_l92Form (R := R) k) := ⟨(good_spec_FormValid k), (good_spec_l1Size k), (good_spec_l6Rd_pick k), (good_spec_l91Form k), trivial⟩
noncomputable def b_spec_l92Form_2 : Code := nthLoop (bodyOf Try.f46) 0
theorem hs_spec_l92Form_2 {R : Type} (k : Nat) (n : Nat) (K : Exit → St → Option R) : ∀ v, lf_spec_l92Form_2 k (n + 1) v K = evk (look (T_spec_l92Form k)) tyE A_spec_l92Form (Func.ntmps Try.f46) (drawn (look (T_spec_l92Form k)) tyE A_spec_l92Form (nats [100038]) (Func.ntmps Try.f46)) (L_spec_l92Form k) b_spec_l92Form_2 (h_spec_l92Form_2.enc v) (loopK A_spec_l92Form b_spec_l92Form_2 h_spec_l92Form_2.dec (lf_spec_l92Form_2 k) n K) := by
  rintro ⟨⟨_, x0, _, _⟩, ⟨⟨x1, x2, _⟩, x3, _⟩⟩
  kernel_rfl
theorem lo_spec_l92Form_2 {R : Type} (k : Nat) : LoopOk tyE.P (Func.ntmps Try.f46) (L_spec_l92Form (R := R) k) b_spec_l92Form_2 :=
  fn_loop tyE_ok (tab_ok (hT_spec_l92Form k)) A_spec_l92Form (nats [100038]) (loops_nil (R := R) (by kernel_rfl)) h_spec_l92Form_2 (lf_spec_l92Form_2 k) k (fun s K => by kernel_rfl) (fun v K => by kernel_rfl) fun n v K r h => hs_spec_l92Form_2 k n K v ▸ h
theorem hg_spec_l92Form {R : Type} (k : Nat) (K : List SV → List Ob → Option R) : ∀ v w, g_spec_l92Form k v w K = runF (look (T_spec_l92Form k)) tyE A_spec_l92Form (nats [100038]) (L_spec_l92Form k) (Func.ntmps Try.f46) [.tmp 4] (bodyOf Try.f46) [.ref 0 0, .int .i64] [.cells 66 [.sl true 5 (.int .u8), .int .i64]] [.sl false 3 (.int .i64)] v w K := by
  rintro ⟨x0, x1, _⟩ ⟨⟨z0_0, z0_1, _⟩, _⟩
  kernel_rfl
theorem good_spec_l92Form {R : Type} (k : Nat) : Good tyE.P 46 false (F_spec_l92Form (R := R) k) :=
  fn_good tyE_ok (tab_ok (hT_spec_l92Form k)) A_spec_l92Form (nats [100038]) (fn := Try.f46) (c := bodyOf Try.f46) (rs := [.tmp 4]) (by kernel_rfl) (by kernel_rfl) (by kernel_rfl) (by kernel_rfl) (L := L_spec_l92Form k) (loops_one (R := R) (by kernel_rfl) (lo_spec_l92Form_2 k)) [.ref 0 0, .int .i64] [.cells 66 [.sl true 5 (.int .u8), .int .i64]] [.sl false 3 (.int .i64)] (g_spec_l92Form k) fun v w K r h => hg_spec_l92Form k K v w ▸ h


/-! "loop.example/localglobal/spec.l92Target" -/
noncomputable def f_spec_l92Target {R : Type} (k : Nat) (c0_0 : List Int) (c0_1 : Int) (K : Int → List Int → Int → Option R) : Option R :=
  f_spec_l6Rd_pick k 20 c0_0 c0_1 (fun r1 r2 r3 => cond (decide (r1 = 0)) (f_spec_l6Rd_pick k 4 r2 r3 (fun r4 r5 r6 => cond (decide (0 ≤ r4) && decide (r4 < (([0, 31, -31, 30]).length : Int))) (K (List.getD [0, 31, -31, 30] (Int.toNat r4) 0) r5 r6) none)) (f_spec_l6Rd_pick k 20 r2 r3 (fun r7 r8 r9 => f_spec_l6Rd_pick k 4 r8 r9 (fun r10 r11 r12 => cond (decide (r10 = 0)) (K (IntKind.wrap .i64 (0 - (IntKind.wrap .i64 (1 + r7)))) r11 r12) (K (IntKind.wrap .i64 (1 + r7)) r11 r12)))))


noncomputable def g_spec_l92Target {R : Type} (k : Nat) (v : HT [.ref 0 0]) (w : HO [.cells 66 [.sl true 5 (.int .u8), .int .i64]]) (K : List SV → List Ob → Option R) : Option R := f_spec_l92Target k w.1.1 w.1.2.1 (fun r0 r1 r2 => K [.int .i64 r0] [.cells 66 [.sl true 5 (.int .u8) r1, .int .i64 r2]])
noncomputable def F_spec_l92Target {R : Type} (k : Nat) : CF R := wrapF [.ref 0 0] [.cells 66 [.sl true 5 (.int .u8), .int .i64]] (g_spec_l92Target k)
noncomputable def A_spec_l92Target : Ann := { pre := nats [], cut := look [], frz := fun i => match look [] i with | some l => l | none => [], fz := nats [], out := outOf [] (some [2]) }
noncomputable def T_spec_l92Target {R : Type} (k : Nat) : List (Nat × (Bool × CF R)) := [(36, (false, (F_spec_l6Rd_pick k)))]
noncomputable def L_spec_l92Target {R : Type} (k : Nat) (c : Code) (s : St) (K : Exit → St → Option R) : Option R := none
theorem hT_spec_l92Target {R : Type} (k : Nat) : TabOk tyE.P (T_spec_l92Target (R := R) k) := ⟨(good_spec_l6Rd_pick k), trivial⟩
theorem hg_spec_l92Target {R : Type} (k : Nat) (K : List SV → List Ob → Option R) : ∀ v w, g_spec_l92Target k v w K = runF (look (T_spec_l92Target k)) tyE A_spec_l92Target (nats []) (L_spec_l92Target k) (Func.ntmps Try.f60) [.tmp 2] (bodyOf Try.f60) [.ref 0 0] [.cells 66 [.sl true 5 (.int .u8), .int .i64]] [.int .i64] v w K := by
  rintro ⟨x0, _⟩ ⟨⟨z0_0, z0_1, _⟩, _⟩
  kernel_rfl
theorem good_spec_l92Target {R : Type} (k : Nat) : Good tyE.P 60 false (F_spec_l92Target (R := R) k) :=
  fn_good tyE_ok (tab_ok (hT_spec_l92Target k)) A_spec_l92Target (nats []) (fn := Try.f60) (c := bodyOf Try.f60) (rs := [.tmp 2]) (by kernel_rfl) (by kernel_rfl) (by kernel_rfl) (by kernel_rfl) (L := L_spec_l92Target k) (loops_nil (R := R) (by kernel_rfl)) [.ref 0 0] [.cells 66 [.sl true 5 (.int .u8), .int .i64]] [.int .i64] (g_spec_l92Target k) fun v w K r h => hg_spec_l92Target k K v w ▸ h


/-! "loop.example/localglobal/spec.DrawValueFind" -/
noncomputable def f_spec_DrawValueFind {R : Type} (k : Nat) (a0 : List Int) (K : List Int → Int → Option R) : Option R :=
  f_spec_l6Open k a0 (fun r1 r2 => f_spec_l6Rd_pick k 3 r1 r2 (fun r3 r4 r5 => f_spec_l6Rd_pick k 16 r4 r5 (fun r6 r7 r8 => f_spec_l92Form k (IntKind.wrap .i64 ((IntKind.wrap .i64 (1 + r3)) + (IntKind.wrap .i64 (Int.tdiv r6 15)))) r7 r8 (fun r9 r10 r11 => f_spec_l92Target k r10 r11 (fun r12 r13 r14 => K r9 r12)))))


noncomputable def g_spec_DrawValueFind {R : Type} (k : Nat) (v : HT [.sl true 5 (.int .u8)]) (w : HO []) (K : List SV → List Ob → Option R) : Option R := f_spec_DrawValueFind k v.1 (fun r0 r1 => K [.sl false 3 (.int .i64) r0, .int .i64 r1] [])
noncomputable def F_spec_DrawValueFind {R : Type} (k : Nat) : CF R := wrapF [.sl true 5 (.int .u8)] [] (g_spec_DrawValueFind k)
noncomputable def A_spec_DrawValueFind : Ann := { pre := nats [], cut := look [], frz := fun i => match look [] i with | some l => l | none => [], fz := nats [], out := outOf [] (some [2, 3]) }
noncomputable def T_spec_DrawValueFind {R : Type} (k : Nat) : List (Nat × (Bool × CF R)) := [(27, (false, (F_spec_l6Open k))), (36, (false, (F_spec_l6Rd_pick k))), (46, (false, (F_spec_l92Form k))), (60, (false, (F_spec_l92Target k)))]
noncomputable def L_spec_DrawValueFind {R : Type} (k : Nat) (c : Code) (s : St) (K : Exit → St → Option R) : Option R := none
theorem hT_spec_DrawValueFind {R : Type} (k : Nat) : TabOk tyE.P (T_spec_DrawValueFind (R := R) k) := ⟨(good_spec_l6Open k), (good_spec_l6Rd_pick k), (good_spec_l92Form k), (good_spec_l92Target k), trivial⟩
theorem hg_spec_DrawValueFind {R : Type} (k : Nat) (K : List SV → List Ob → Option R) : ∀ v w, g_spec_DrawValueFind k v w K = runF (look (T_spec_DrawValueFind k)) tyE A_spec_DrawValueFind (nats []) (L_spec_DrawValueFind k) (Func.ntmps Try.f22) [.tmp 2, .tmp 3] (bodyOf Try.f22) [.sl true 5 (.int .u8)] [] [.sl false 3 (.int .i64), .int .i64] v w K := by
  rintro ⟨x0, _⟩ _
  kernel_rfl
theorem good_spec_DrawValueFind {R : Type} (k : Nat) : Good tyE.P 22 false (F_spec_DrawValueFind (R := R) k) :=
  fn_good tyE_ok (tab_ok (hT_spec_DrawValueFind k)) A_spec_DrawValueFind (nats []) (fn := Try.f22) (c := bodyOf Try.f22) (rs := [.tmp 2, .tmp 3]) (by kernel_rfl) (by kernel_rfl) (by kernel_rfl) (by kernel_rfl) (L := L_spec_DrawValueFind k) (loops_nil (R := R) (by kernel_rfl)) [.sl true 5 (.int .u8)] [] [.sl false 3 (.int .i64), .int .i64] (g_spec_DrawValueFind k) fun v w K r h => hg_spec_DrawValueFind k K v w ▸ h


end Go.Proofs.Ytmmadcccjicdcaa.E
