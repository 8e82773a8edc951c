/- The program's functions as plain Lean functions, and that the program comes to what they say. -/
import Derived.Test.YtmmadcccjicdcaaV
namespace Go.Proofs.Ytmmadcccjicdcaa.E
set_option linter.unusedVariables false
set_option maxRecDepth 100000

/-! "loop.example/localglobal/spec.l6Open" -/
noncomputable def f27 {R : Type} (k : Nat) (a0 : List Int) (K : List Int → Int → Option R) : Option R :=
  cond (decide (2000 < (a0.length : Int))) (cond (decide (0 ≤ 0) && decide (0 ≤ 2000) && decide (2000 ≤ (a0.length : Int))) (K ((a0.take (Int.toNat 2000)).drop (Int.toNat 0)) 0) none) (K a0 0)


noncomputable def g27 {R : Type} (k : Nat) (v : HT [.sl true 5 (.int .u8)]) (w : HO []) (K : List SV → List Ob → Option R) : Option R := f27 k v.1 (fun r0 r1 => K [.ref 0 0] [.cells 66 [.sl true 5 (.int .u8) r0, .int .i64 r1]])
noncomputable def F27 {R : Type} (k : Nat) : CF R := wrapF [.sl true 5 (.int .u8)] [] (g27 k)
noncomputable def A27 : Ann := { pre := nats [], cut := look [], frz := fun i => match look [] i with | some l => l | none => [], fz := nats [], out := outOf [] (some [2]) }
noncomputable def T27 {R : Type} (k : Nat) : List (Nat × (Bool × CF R)) := []
noncomputable def L27 {R : Type} (k : Nat) (c : Code) (s : St) (K : Exit → St → Option R) : Option R := none
theorem hT27 {R : Type} (k : Nat) : TabOk tyE.P (T27 (R := R) k) := trivial
theorem hg27 {R : Type} (k : Nat) (K : List SV → List Ob → Option R) : ∀ v w, g27 k v w K = runR (look (T27 k)) tyE A27 (nats []) (L27 k) (Func.ntmps Try.f27) [.tmp 2] (bodyOf Try.f27) [.sl true 5 (.int .u8)] [] [.ref 0 0] v w K := by
  rintro ⟨x0, _⟩ _
  kernel_rfl
theorem good27 {R : Type} (k : Nat) : Good tyE.P 27 false (F27 (R := R) k) :=
  fn_good_raw tyE_ok (tab_ok (hT27 k)) A27 (nats []) (fn := Try.f27) (c := bodyOf Try.f27) (rs := [.tmp 2]) (by kernel_rfl) (by kernel_rfl) (by kernel_rfl) (by kernel_rfl) (L := L27 k) (loops_nil (R := R) (by kernel_rfl)) [.sl true 5 (.int .u8)] [] [.ref 0 0] (g27 k) fun v w K r h => hg27 k K v w ▸ h


/-! "(*loop.example/localglobal/spec.l6Rd).pick" -/
noncomputable def f36 {R : Type} (k : Nat) (a1 : Int) (c0_0 : List Int) (c0_1 : Int) (K : Int → List Int → Int → Option R) : Option R :=
  cond (decide (a1 < 1)) (K 0 c0_0 (IntKind.wrap .i64 (c0_1 + 1))) (cond (decide ((c0_0.length : Int) = 0)) (K 0 c0_0 (IntKind.wrap .i64 (c0_1 + 1))) (cond (decide ((IntKind.wrap .i64 ((IntKind.wrap .i64 (c0_1 + 1)) - 1)) < (c0_0.length : Int))) (cond (decide (0 ≤ (IntKind.wrap .i64 ((IntKind.wrap .i64 (c0_1 + 1)) - 1))) && decide ((IntKind.wrap .i64 ((IntKind.wrap .i64 (c0_1 + 1)) - 1)) < ((c0_0).length : Int))) (cond (!decide (a1 = 0)) (K (Int.tmod (IntKind.wrap .i64 ((List.getD c0_0 (Int.toNat (IntKind.wrap .i64 ((IntKind.wrap .i64 (c0_1 + 1)) - 1))) 0))) a1) c0_0 (IntKind.wrap .i64 (c0_1 + 1))) none) none) (cond (!decide ((c0_0.length : Int) = 0)) (cond (decide (0 ≤ (Int.tmod (IntKind.wrap .i64 ((IntKind.wrap .i64 (c0_1 + 1)) - 1)) (c0_0.length : Int))) && decide ((Int.tmod (IntKind.wrap .i64 ((IntKind.wrap .i64 (c0_1 + 1)) - 1)) (c0_0.length : Int)) < ((c0_0).length : Int))) (cond (!decide ((c0_0.length : Int) = 0)) (cond (decide (0 ≤ (Int.tmod (IntKind.wrap .i64 ((IntKind.wrap .i64 ((IntKind.wrap .i64 ((IntKind.wrap .i64 (c0_1 + 1)) - 1)) * 7)) + 3)) (c0_0.length : Int))) && decide ((Int.tmod (IntKind.wrap .i64 ((IntKind.wrap .i64 ((IntKind.wrap .i64 ((IntKind.wrap .i64 (c0_1 + 1)) - 1)) * 7)) + 3)) (c0_0.length : Int)) < ((c0_0).length : Int))) (cond (!decide ((c0_0.length : Int) = 0)) (cond (!decide (a1 = 0)) (K (Int.tmod (IntKind.wrap .i64 (((BitVec.ofInt (IntKind.bits .i64) (IntKind.wrap .i64 ((IntKind.wrap .i64 ((IntKind.wrap .i64 ((IntKind.wrap .i64 ((IntKind.wrap .i64 ((List.getD c0_0 (Int.toNat (Int.tmod (IntKind.wrap .i64 ((IntKind.wrap .i64 (c0_1 + 1)) - 1)) (c0_0.length : Int))) 0))) * 131)) + (IntKind.wrap .i64 ((IntKind.wrap .i64 ((List.getD c0_0 (Int.toNat (Int.tmod (IntKind.wrap .i64 ((IntKind.wrap .i64 ((IntKind.wrap .i64 ((IntKind.wrap .i64 (c0_1 + 1)) - 1)) * 7)) + 3)) (c0_0.length : Int))) 0))) * 1117)))) + (IntKind.wrap .i64 ((IntKind.wrap .i64 ((IntKind.wrap .i64 (c0_1 + 1)) - 1)) * 29)))) + (IntKind.wrap .i64 ((IntKind.wrap .i64 (Int.tdiv (IntKind.wrap .i64 ((IntKind.wrap .i64 (c0_1 + 1)) - 1)) (c0_0.length : Int))) * 53)))) ^^^ BitVec.ofInt (IntKind.bits .i64) (IntKind.wrap .i64 (Int.tdiv (IntKind.wrap .i64 ((IntKind.wrap .i64 ((IntKind.wrap .i64 ((IntKind.wrap .i64 ((IntKind.wrap .i64 ((List.getD c0_0 (Int.toNat (Int.tmod (IntKind.wrap .i64 ((IntKind.wrap .i64 (c0_1 + 1)) - 1)) (c0_0.length : Int))) 0))) * 131)) + (IntKind.wrap .i64 ((IntKind.wrap .i64 ((List.getD c0_0 (Int.toNat (Int.tmod (IntKind.wrap .i64 ((IntKind.wrap .i64 ((IntKind.wrap .i64 ((IntKind.wrap .i64 (c0_1 + 1)) - 1)) * 7)) + 3)) (c0_0.length : Int))) 0))) * 1117)))) + (IntKind.wrap .i64 ((IntKind.wrap .i64 ((IntKind.wrap .i64 (c0_1 + 1)) - 1)) * 29)))) + (IntKind.wrap .i64 ((IntKind.wrap .i64 (Int.tdiv (IntKind.wrap .i64 ((IntKind.wrap .i64 (c0_1 + 1)) - 1)) (c0_0.length : Int))) * 53)))) 64))).toNat : Int))) a1) c0_0 (IntKind.wrap .i64 (c0_1 + 1))) none) none) none) none) none) none)))


noncomputable def g36 {R : Type} (k : Nat) (v : HT [.ref 0 0, .int .i64]) (w : HO [.cells 66 [.sl true 5 (.int .u8), .int .i64]]) (K : List SV → List Ob → Option R) : Option R := f36 k v.2.1 w.1.1 w.1.2.1 (fun r0 r1 r2 => K [.int .i64 r0] [.cells 66 [.sl true 5 (.int .u8) r1, .int .i64 r2]])
noncomputable def F36 {R : Type} (k : Nat) : CF R := wrapF [.ref 0 0, .int .i64] [.cells 66 [.sl true 5 (.int .u8), .int .i64]] (g36 k)
noncomputable def A36 : Ann := { pre := nats [], cut := look [], frz := fun i => match look [] i with | some l => l | none => [], fz := nats [], out := outOf [] (some [4]) }
noncomputable def T36 {R : Type} (k : Nat) : List (Nat × (Bool × CF R)) := []
noncomputable def L36 {R : Type} (k : Nat) (c : Code) (s : St) (K : Exit → St → Option R) : Option R := none
theorem hT36 {R : Type} (k : Nat) : TabOk tyE.P (T36 (R := R) k) := trivial
theorem hg36 {R : Type} (k : Nat) (K : List SV → List Ob → Option R) : ∀ v w, g36 k v w K = runF (look (T36 k)) tyE A36 (nats []) (L36 k) (Func.ntmps Try.f36) [.tmp 4] (bodyOf Try.f36) [.ref 0 0, .int .i64] [.cells 66 [.sl true 5 (.int .u8), .int .i64]] [.int .i64] v w K := by
  rintro ⟨x0, x1, _⟩ ⟨⟨z0_0, z0_1, _⟩, _⟩
  kernel_rfl
theorem good36 {R : Type} (k : Nat) : Good tyE.P 36 false (F36 (R := R) k) :=
  fn_good tyE_ok (tab_ok (hT36 k)) A36 (nats []) (fn := Try.f36) (c := bodyOf Try.f36) (rs := [.tmp 4]) (by kernel_rfl) (by kernel_rfl) (by kernel_rfl) (by kernel_rfl) (L := L36 k) (loops_nil (R := R) (by kernel_rfl)) [.ref 0 0, .int .i64] [.cells 66 [.sl true 5 (.int .u8), .int .i64]] [.int .i64] (g36 k) fun v w K r h => hg36 k K v w ▸ h


/-! "loop.example/localglobal/spec.l92Sum" -/
noncomputable def f26 {R : Type} (k : Nat) (c0_0 : List Int) (c0_1 : Int) (K : Int → List Int → Int → Option R) : Option R :=
  f36 k 20 c0_0 c0_1 (fun r1 r2 r3 => cond (decide (r1 = 0)) (f36 k 4 r2 r3 (fun r4 r5 r6 => cond (decide (0 ≤ r4) && decide (r4 < (([-1, 0, 2000, 2001]).length : Int))) (K (List.getD [-1, 0, 2000, 2001] (Int.toNat r4) 0) r5 r6) none)) (f36 k 100 r2 r3 (fun r7 r8 r9 => f36 k 6 r8 r9 (fun r10 r11 r12 => f36 k 80 r11 r12 (fun r13 r14 r15 => K (IntKind.wrap .i64 (r7 + (IntKind.wrap .i64 (r10 * r13)))) r14 r15)))))


noncomputable def g26 {R : Type} (k : Nat) (v : HT [.ref 0 0]) (w : HO [.cells 66 [.sl true 5 (.int .u8), .int .i64]]) (K : List SV → List Ob → Option R) : Option R := f26 k w.1.1 w.1.2.1 (fun r0 r1 r2 => K [.int .i64 r0] [.cells 66 [.sl true 5 (.int .u8) r1, .int .i64 r2]])
noncomputable def F26 {R : Type} (k : Nat) : CF R := wrapF [.ref 0 0] [.cells 66 [.sl true 5 (.int .u8), .int .i64]] (g26 k)
noncomputable def A26 : Ann := { pre := nats [], cut := look [], frz := fun i => match look [] i with | some l => l | none => [], fz := nats [], out := outOf [] (some [2]) }
noncomputable def T26 {R : Type} (k : Nat) : List (Nat × (Bool × CF R)) := [(36, (false, (F36 k)))]
noncomputable def L26 {R : Type} (k : Nat) (c : Code) (s : St) (K : Exit → St → Option R) : Option R := none
theorem hT26 {R : Type} (k : Nat) : TabOk tyE.P (T26 (R := R) k) := ⟨(good36 k), trivial⟩
theorem hg26 {R : Type} (k : Nat) (K : List SV → List Ob → Option R) : ∀ v w, g26 k v w K = runF (look (T26 k)) tyE A26 (nats []) (L26 k) (Func.ntmps Try.f26) [.tmp 2] (bodyOf Try.f26) [.ref 0 0] [.cells 66 [.sl true 5 (.int .u8), .int .i64]] [.int .i64] v w K := by
  rintro ⟨x0, _⟩ ⟨⟨z0_0, z0_1, _⟩, _⟩
  kernel_rfl
theorem good26 {R : Type} (k : Nat) : Good tyE.P 26 false (F26 (R := R) k) :=
  fn_good tyE_ok (tab_ok (hT26 k)) A26 (nats []) (fn := Try.f26) (c := bodyOf Try.f26) (rs := [.tmp 2]) (by kernel_rfl) (by kernel_rfl) (by kernel_rfl) (by kernel_rfl) (L := L26 k) (loops_nil (R := R) (by kernel_rfl)) [.ref 0 0] [.cells 66 [.sl true 5 (.int .u8), .int .i64]] [.int .i64] (g26 k) fun v w K r h => hg26 k K v w ▸ h


/-! "loop.example/localglobal/spec.DrawTwoEach" -/
noncomputable def f8 {R : Type} (k : Nat) (a0 : List Int) (K : Int → Option R) : Option R :=
  f27 k a0 (fun r1 r2 => f26 k r1 r2 (fun r3 r4 r5 => K r3))


noncomputable def g8 {R : Type} (k : Nat) (v : HT [.sl true 5 (.int .u8)]) (w : HO []) (K : List SV → List Ob → Option R) : Option R := f8 k v.1 (fun r0 => K [.int .i64 r0] [])
noncomputable def F8 {R : Type} (k : Nat) : CF R := wrapF [.sl true 5 (.int .u8)] [] (g8 k)
noncomputable def A8 : Ann := { pre := nats [], cut := look [], frz := fun i => match look [] i with | some l => l | none => [], fz := nats [], out := outOf [] (some [2]) }
noncomputable def T8 {R : Type} (k : Nat) : List (Nat × (Bool × CF R)) := [(26, (false, (F26 k))), (27, (false, (F27 k)))]
noncomputable def L8 {R : Type} (k : Nat) (c : Code) (s : St) (K : Exit → St → Option R) : Option R := none
theorem hT8 {R : Type} (k : Nat) : TabOk tyE.P (T8 (R := R) k) := ⟨(good26 k), (good27 k), trivial⟩
theorem hg8 {R : Type} (k : Nat) (K : List SV → List Ob → Option R) : ∀ v w, g8 k v w K = runF (look (T8 k)) tyE A8 (nats []) (L8 k) (Func.ntmps Try.f8) [.tmp 2] (bodyOf Try.f8) [.sl true 5 (.int .u8)] [] [.int .i64] v w K := by
  rintro ⟨x0, _⟩ _
  kernel_rfl
theorem good8 {R : Type} (k : Nat) : Good tyE.P 8 false (F8 (R := R) k) :=
  fn_good tyE_ok (tab_ok (hT8 k)) A8 (nats []) (fn := Try.f8) (c := bodyOf Try.f8) (rs := [.tmp 2]) (by kernel_rfl) (by kernel_rfl) (by kernel_rfl) (by kernel_rfl) (L := L8 k) (loops_nil (R := R) (by kernel_rfl)) [.sl true 5 (.int .u8)] [] [.int .i64] (g8 k) fun v w K r h => hg8 k K v w ▸ h


/-! "loop.example/localglobal/impl.squareRoot" -/
noncomputable def l66_5 {R : Type} (k : Nat) : Nat → Int → Int → Int → (Int → Int → Option R) → Option R
  | 0, _, _, _, _ => none
  | n + 1, v1, v2, v3, K0 => cond (decide (0 < v3)) (cond (decide ((IntKind.wrap .i64 ((IntKind.wrap .i64 (v2 + v3)) * (IntKind.wrap .i64 (v2 + v3)))) ≤ v1)) (l66_5 k n v1 (IntKind.wrap .i64 (v2 + v3)) (IntKind.wrap .i64 (Int.tdiv v3 2)) K0) (l66_5 k n v1 v2 (IntKind.wrap .i64 (Int.tdiv v3 2)) K0)) (K0 v1 v2)

noncomputable def f66 {R : Type} (k : Nat) (a0 : Int) (K : Int → Bool → Option R) : Option R :=
  cond (decide (a0 < 0)) (K 0 false) (l66_5 k k a0 0 1073741824 (fun y4 y5 => K y5 (decide ((IntKind.wrap .i64 (y5 * y5)) = y4))))


noncomputable def g66 {R : Type} (k : Nat) (v : HT [.int .i64]) (w : HO []) (K : List SV → List Ob → Option R) : Option R := f66 k v.1 (fun r0 r1 => K [.int .i64 r0, .bool r1] [])
noncomputable def F66 {R : Type} (k : Nat) : CF R := wrapF [.int .i64] [] (g66 k)
noncomputable def A66 : Ann := { pre := nats [], cut := look [(5, [0, 4, 5])], frz := fun i => match look [] i with | some l => l | none => [], fz := nats [], out := outOf [(0, [0, 4])] (some [2, 3]) }
noncomputable def T66 {R : Type} (k : Nat) : List (Nat × (Bool × CF R)) := []
noncomputable abbrev h66_5 : Shape := ⟨[(0, .int .i64), (4, .int .i64), (5, .int .i64)], []⟩
noncomputable def lf66_5 {R : Type} (k : Nat) (n : Nat) (v : h66_5.T) (K : Exit → St → Option R) : Option R := l66_5 k n v.1.1 v.1.2.1 v.1.2.2.1 (fun y0 y1 => K (.exit 0) ⟨[(0, .s (.int .i64 y0)), (4, .s (.int .i64 y1))], []⟩)
noncomputable def L66 {R : Type} (k : Nat) (c : Code) (s : St) (K : Exit → St → Option R) : Option R := cond (Nat.beq (firstReg c) 5) ((h66_5.dec (cutAt A66 c s)).bind fun v => lf66_5 k k v K) (none)
theorem hT66 {R : Type} (k : Nat) : TabOk tyE.P (T66 (R := R) k) := trivial
noncomputable def b66_5 : Code := nthLoop (bodyOf Try.f66) 0
theorem hs66_5 {R : Type} (k : Nat) (n : Nat) (K : Exit → St → Option R) : ∀ v, lf66_5 k (n + 1) v K = evk (look (T66 k)) tyE A66 (Func.ntmps Try.f66) (drawn (look (T66 k)) tyE A66 (nats []) (Func.ntmps Try.f66)) (L66 k) b66_5 (h66_5.enc v) (loopK A66 b66_5 h66_5.dec (lf66_5 k) n K) := by
  rintro ⟨⟨x0, x1, x2, _⟩, _⟩
  kernel_rfl
theorem lo66_5 {R : Type} (k : Nat) : LoopOk tyE.P (Func.ntmps Try.f66) (L66 (R := R) k) b66_5 :=
  fn_loop tyE_ok (tab_ok (hT66 k)) A66 (nats []) (loops_nil (R := R) (by kernel_rfl)) h66_5 (lf66_5 k) k (fun s K => by kernel_rfl) (fun v K => by kernel_rfl) fun n v K r h => hs66_5 k n K v ▸ h
theorem hg66 {R : Type} (k : Nat) (K : List SV → List Ob → Option R) : ∀ v w, g66 k v w K = runF (look (T66 k)) tyE A66 (nats []) (L66 k) (Func.ntmps Try.f66) [.tmp 2, .tmp 3] (bodyOf Try.f66) [.int .i64] [] [.int .i64, .bool] v w K := by
  rintro ⟨x0, _⟩ _
  kernel_rfl
theorem good66 {R : Type} (k : Nat) : Good tyE.P 66 false (F66 (R := R) k) :=
  fn_good tyE_ok (tab_ok (hT66 k)) A66 (nats []) (fn := Try.f66) (c := bodyOf Try.f66) (rs := [.tmp 2, .tmp 3]) (by kernel_rfl) (by kernel_rfl) (by kernel_rfl) (by kernel_rfl) (L := L66 k) (loops_one (R := R) (by kernel_rfl) (lo66_5 k)) [.int .i64] [] [.int .i64, .bool] (g66 k) fun v w K r h => hg66 k K v w ▸ h


/-! "loop.example/localglobal/impl.twoWays" -/
noncomputable def l28_3 {R : Type} (k : Nat) : Nat → Int → Int → Int → (Int → Option R) → Option R
  | 0, _, _, _, _ => none
  | n + 1, v1, v2, v3, K0 => cond (decide ((IntKind.wrap .i64 (v3 * v3)) ≤ v1)) (f66 k (IntKind.wrap .i64 (v1 - (IntKind.wrap .i64 (v3 * v3)))) (fun r4 r5 => cond (r5) (cond (decide (0 < v3)) (cond (decide (0 < r4)) (l28_3 k n v1 (IntKind.wrap .i64 (v2 + (IntKind.wrap .i64 ((IntKind.wrap .i64 (1 * 2)) * 2)))) (IntKind.wrap .i64 (v3 + 1)) K0) (l28_3 k n v1 (IntKind.wrap .i64 (v2 + (IntKind.wrap .i64 (1 * 2)))) (IntKind.wrap .i64 (v3 + 1)) K0)) (cond (decide (0 < r4)) (l28_3 k n v1 (IntKind.wrap .i64 (v2 + (IntKind.wrap .i64 (1 * 2)))) (IntKind.wrap .i64 (v3 + 1)) K0) (l28_3 k n v1 (IntKind.wrap .i64 (v2 + 1)) (IntKind.wrap .i64 (v3 + 1)) K0))) (l28_3 k n v1 v2 (IntKind.wrap .i64 (v3 + 1)) K0))) (K0 v2)

noncomputable def f28 {R : Type} (k : Nat) (a0 : Int) (K : Int → Option R) : Option R :=
  l28_3 k k a0 0 0 (fun y6 => K y6)


noncomputable def g28 {R : Type} (k : Nat) (v : HT [.int .i64]) (w : HO []) (K : List SV → List Ob → Option R) : Option R := f28 k v.1 (fun r0 => K [.int .i64 r0] [])
noncomputable def F28 {R : Type} (k : Nat) : CF R := wrapF [.int .i64] [] (g28 k)
noncomputable def A28 : Ann := { pre := nats [], cut := look [(3, [0, 3, 4])], frz := fun i => match look [] i with | some l => l | none => [], fz := nats [], out := outOf [(0, [3])] (some [2]) }
noncomputable def T28 {R : Type} (k : Nat) : List (Nat × (Bool × CF R)) := [(66, (false, (F66 k)))]
noncomputable abbrev h28_3 : Shape := ⟨[(0, .int .i64), (3, .int .i64), (4, .int .i64)], []⟩
noncomputable def lf28_3 {R : Type} (k : Nat) (n : Nat) (v : h28_3.T) (K : Exit → St → Option R) : Option R := l28_3 k n v.1.1 v.1.2.1 v.1.2.2.1 (fun y0 => K (.exit 0) ⟨[(3, .s (.int .i64 y0))], []⟩)
noncomputable def L28 {R : Type} (k : Nat) (c : Code) (s : St) (K : Exit → St → Option R) : Option R := cond (Nat.beq (firstReg c) 3) ((h28_3.dec (cutAt A28 c s)).bind fun v => lf28_3 k k v K) (none)
theorem hT28 {R : Type} (k : Nat) : TabOk tyE.P (T28 (R := R) k) := ⟨(good66 k), trivial⟩
noncomputable def b28_3 : Code := nthLoop (bodyOf Try.f28) 0
theorem hs28_3 {R : Type} (k : Nat) (n : Nat) (K : Exit → St → Option R) : ∀ v, lf28_3 k (n + 1) v K = evk (look (T28 k)) tyE A28 (Func.ntmps Try.f28) (drawn (look (T28 k)) tyE A28 (nats []) (Func.ntmps Try.f28)) (L28 k) b28_3 (h28_3.enc v) (loopK A28 b28_3 h28_3.dec (lf28_3 k) n K) := by
  rintro ⟨⟨x0, x1, x2, _⟩, _⟩
  kernel_rfl
theorem lo28_3 {R : Type} (k : Nat) : LoopOk tyE.P (Func.ntmps Try.f28) (L28 (R := R) k) b28_3 :=
  fn_loop tyE_ok (tab_ok (hT28 k)) A28 (nats []) (loops_nil (R := R) (by kernel_rfl)) h28_3 (lf28_3 k) k (fun s K => by kernel_rfl) (fun v K => by kernel_rfl) fun n v K r h => hs28_3 k n K v ▸ h
theorem hg28 {R : Type} (k : Nat) (K : List SV → List Ob → Option R) : ∀ v w, g28 k v w K = runF (look (T28 k)) tyE A28 (nats []) (L28 k) (Func.ntmps Try.f28) [.tmp 2] (bodyOf Try.f28) [.int .i64] [] [.int .i64] v w K := by
  rintro ⟨x0, _⟩ _
  kernel_rfl
theorem good28 {R : Type} (k : Nat) : Good tyE.P 28 false (F28 (R := R) k) :=
  fn_good tyE_ok (tab_ok (hT28 k)) A28 (nats []) (fn := Try.f28) (c := bodyOf Try.f28) (rs := [.tmp 2]) (by kernel_rfl) (by kernel_rfl) (by kernel_rfl) (by kernel_rfl) (L := L28 k) (loops_one (R := R) (by kernel_rfl) (lo28_3 k)) [.int .i64] [] [.int .i64] (g28 k) fun v w K r h => hg28 k K v w ▸ h


/-! "loop.example/localglobal/impl.TwoEach" -/
noncomputable def f9 {R : Type} (k : Nat) (a0 : Int) (K : Int → Option R) : Option R :=
  cond (decide (a0 < 0)) (K (-1)) (cond (decide (2000 < a0)) (K (-1)) (f28 k a0 (fun r1 => K r1)))


noncomputable def g9 {R : Type} (k : Nat) (v : HT [.int .i64]) (w : HO []) (K : List SV → List Ob → Option R) : Option R := f9 k v.1 (fun r0 => K [.int .i64 r0] [])
noncomputable def F9 {R : Type} (k : Nat) : CF R := wrapF [.int .i64] [] (g9 k)
noncomputable def A9 : Ann := { pre := nats [], cut := look [], frz := fun i => match look [] i with | some l => l | none => [], fz := nats [], out := outOf [] (some [2]) }
noncomputable def T9 {R : Type} (k : Nat) : List (Nat × (Bool × CF R)) := [(28, (false, (F28 k)))]
noncomputable def L9 {R : Type} (k : Nat) (c : Code) (s : St) (K : Exit → St → Option R) : Option R := none
theorem hT9 {R : Type} (k : Nat) : TabOk tyE.P (T9 (R := R) k) := ⟨(good28 k), trivial⟩
theorem hg9 {R : Type} (k : Nat) (K : List SV → List Ob → Option R) : ∀ v w, g9 k v w K = runF (look (T9 k)) tyE A9 (nats []) (L9 k) (Func.ntmps Try.f9) [.tmp 2] (bodyOf Try.f9) [.int .i64] [] [.int .i64] v w K := by
  rintro ⟨x0, _⟩ _
  kernel_rfl
theorem good9 {R : Type} (k : Nat) : Good tyE.P 9 false (F9 (R := R) k) :=
  fn_good tyE_ok (tab_ok (hT9 k)) A9 (nats []) (fn := Try.f9) (c := bodyOf Try.f9) (rs := [.tmp 2]) (by kernel_rfl) (by kernel_rfl) (by kernel_rfl) (by kernel_rfl) (L := L9 k) (loops_nil (R := R) (by kernel_rfl)) [.int .i64] [] [.int .i64] (g9 k) fun v w K r h => hg9 k K v w ▸ h


/-! "loop.example/localglobal/spec.l6In" -/
noncomputable def f38 {R : Type} (k : Nat) (a0 : Int) (a1 : Int) (a2 : Int) (K : Bool → Option R) : Option R :=
  cond (decide (a1 ≤ a0)) (K (decide (a0 ≤ a2))) (K false)


noncomputable def g38 {R : Type} (k : Nat) (v : HT [.int .i64, .int .i64, .int .i64]) (w : HO []) (K : List SV → List Ob → Option R) : Option R := f38 k v.1 v.2.1 v.2.2.1 (fun r0 => K [.bool r0] [])
noncomputable def F38 {R : Type} (k : Nat) : CF R := wrapF [.int .i64, .int .i64, .int .i64] [] (g38 k)
noncomputable def A38 : Ann := { pre := nats [], cut := look [], frz := fun i => match look [] i with | some l => l | none => [], fz := nats [], out := outOf [] (some [6]) }
noncomputable def T38 {R : Type} (k : Nat) : List (Nat × (Bool × CF R)) := []
noncomputable def L38 {R : Type} (k : Nat) (c : Code) (s : St) (K : Exit → St → Option R) : Option R := none
theorem hT38 {R : Type} (k : Nat) : TabOk tyE.P (T38 (R := R) k) := trivial
theorem hg38 {R : Type} (k : Nat) (K : List SV → List Ob → Option R) : ∀ v w, g38 k v w K = runF (look (T38 k)) tyE A38 (nats []) (L38 k) (Func.ntmps Try.f38) [.tmp 6] (bodyOf Try.f38) [.int .i64, .int .i64, .int .i64] [] [.bool] v w K := by
  rintro ⟨x0, x1, x2, _⟩ _
  kernel_rfl
theorem good38 {R : Type} (k : Nat) : Good tyE.P 38 false (F38 (R := R) k) :=
  fn_good tyE_ok (tab_ok (hT38 k)) A38 (nats []) (fn := Try.f38) (c := bodyOf Try.f38) (rs := [.tmp 6]) (by kernel_rfl) (by kernel_rfl) (by kernel_rfl) (by kernel_rfl) (L := L38 k) (loops_nil (R := R) (by kernel_rfl)) [.int .i64, .int .i64, .int .i64] [] [.bool] (g38 k) fun v w K r h => hg38 k K v w ▸ h


/-! "loop.example/localglobal/spec.l8Sum" -/
noncomputable def f29 {R : Type} (k : Nat) (a0 : Int) (a1 : Int) (K : Bool → Option R) : Option R :=
  f38 k a0 a1 2000 (fun r1 => K r1)


noncomputable def g29 {R : Type} (k : Nat) (v : HT [.int .i64, .int .i64]) (w : HO []) (K : List SV → List Ob → Option R) : Option R := f29 k v.1 v.2.1 (fun r0 => K [.bool r0] [])
noncomputable def F29 {R : Type} (k : Nat) : CF R := wrapF [.int .i64, .int .i64] [] (g29 k)
noncomputable def A29 : Ann := { pre := nats [], cut := look [], frz := fun i => match look [] i with | some l => l | none => [], fz := nats [], out := outOf [] (some [4]) }
noncomputable def T29 {R : Type} (k : Nat) : List (Nat × (Bool × CF R)) := [(38, (false, (F38 k)))]
noncomputable def L29 {R : Type} (k : Nat) (c : Code) (s : St) (K : Exit → St → Option R) : Option R := none
theorem hT29 {R : Type} (k : Nat) : TabOk tyE.P (T29 (R := R) k) := ⟨(good38 k), trivial⟩
theorem hg29 {R : Type} (k : Nat) (K : List SV → List Ob → Option R) : ∀ v w, g29 k v w K = runF (look (T29 k)) tyE A29 (nats []) (L29 k) (Func.ntmps Try.f29) [.tmp 4] (bodyOf Try.f29) [.int .i64, .int .i64] [] [.bool] v w K := by
  rintro ⟨x0, x1, _⟩ _
  kernel_rfl
theorem good29 {R : Type} (k : Nat) : Good tyE.P 29 false (F29 (R := R) k) :=
  fn_good tyE_ok (tab_ok (hT29 k)) A29 (nats []) (fn := Try.f29) (c := bodyOf Try.f29) (rs := [.tmp 4]) (by kernel_rfl) (by kernel_rfl) (by kernel_rfl) (by kernel_rfl) (L := L29 k) (loops_nil (R := R) (by kernel_rfl)) [.int .i64, .int .i64] [] [.bool] (g29 k) fun v w K r h => hg29 k K v w ▸ h


/-! "loop.example/localglobal/spec.l5Root" -/
noncomputable def l67_3 {R : Type} (k : Nat) : Nat → Int → Int → Int → (Int → Int → Option R) → Option R
  | 0, _, _, _, _ => none
  | n + 1, v1, v2, v3, K0 => cond (decide (v2 < v3)) (cond (decide ((IntKind.wrap .i64 ((IntKind.wrap .i64 (Int.tdiv (IntKind.wrap .i64 (v2 + v3)) 2)) * (IntKind.wrap .i64 (Int.tdiv (IntKind.wrap .i64 (v2 + v3)) 2)))) < v1)) (l67_3 k n v1 (IntKind.wrap .i64 ((IntKind.wrap .i64 (Int.tdiv (IntKind.wrap .i64 (v2 + v3)) 2)) + 1)) v3 K0) (l67_3 k n v1 v2 (IntKind.wrap .i64 (Int.tdiv (IntKind.wrap .i64 (v2 + v3)) 2)) K0)) (K0 v1 v2)

noncomputable def f67 {R : Type} (k : Nat) (a0 : Int) (K : Int → Option R) : Option R :=
  l67_3 k k a0 0 1048576 (fun y4 y5 => cond (decide ((IntKind.wrap .i64 (y5 * y5)) = y4)) (K y5) (K (-1)))


noncomputable def g67 {R : Type} (k : Nat) (v : HT [.int .i64]) (w : HO []) (K : List SV → List Ob → Option R) : Option R := f67 k v.1 (fun r0 => K [.int .i64 r0] [])
noncomputable def F67 {R : Type} (k : Nat) : CF R := wrapF [.int .i64] [] (g67 k)
noncomputable def A67 : Ann := { pre := nats [], cut := look [(3, [0, 3, 4])], frz := fun i => match look [] i with | some l => l | none => [], fz := nats [], out := outOf [(0, [0, 3])] (some [2]) }
noncomputable def T67 {R : Type} (k : Nat) : List (Nat × (Bool × CF R)) := []
noncomputable abbrev h67_3 : Shape := ⟨[(0, .int .i64), (3, .int .i64), (4, .int .i64)], []⟩
noncomputable def lf67_3 {R : Type} (k : Nat) (n : Nat) (v : h67_3.T) (K : Exit → St → Option R) : Option R := l67_3 k n v.1.1 v.1.2.1 v.1.2.2.1 (fun y0 y1 => K (.exit 0) ⟨[(0, .s (.int .i64 y0)), (3, .s (.int .i64 y1))], []⟩)
noncomputable def L67 {R : Type} (k : Nat) (c : Code) (s : St) (K : Exit → St → Option R) : Option R := cond (Nat.beq (firstReg c) 3) ((h67_3.dec (cutAt A67 c s)).bind fun v => lf67_3 k k v K) (none)
theorem hT67 {R : Type} (k : Nat) : TabOk tyE.P (T67 (R := R) k) := trivial
noncomputable def b67_3 : Code := nthLoop (bodyOf Try.f67) 0
theorem hs67_3 {R : Type} (k : Nat) (n : Nat) (K : Exit → St → Option R) : ∀ v, lf67_3 k (n + 1) v K = evk (look (T67 k)) tyE A67 (Func.ntmps Try.f67) (drawn (look (T67 k)) tyE A67 (nats []) (Func.ntmps Try.f67)) (L67 k) b67_3 (h67_3.enc v) (loopK A67 b67_3 h67_3.dec (lf67_3 k) n K) := by
  rintro ⟨⟨x0, x1, x2, _⟩, _⟩
  kernel_rfl
theorem lo67_3 {R : Type} (k : Nat) : LoopOk tyE.P (Func.ntmps Try.f67) (L67 (R := R) k) b67_3 :=
  fn_loop tyE_ok (tab_ok (hT67 k)) A67 (nats []) (loops_nil (R := R) (by kernel_rfl)) h67_3 (lf67_3 k) k (fun s K => by kernel_rfl) (fun v K => by kernel_rfl) fun n v K r h => hs67_3 k n K v ▸ h
theorem hg67 {R : Type} (k : Nat) (K : List SV → List Ob → Option R) : ∀ v w, g67 k v w K = runF (look (T67 k)) tyE A67 (nats []) (L67 k) (Func.ntmps Try.f67) [.tmp 2] (bodyOf Try.f67) [.int .i64] [] [.int .i64] v w K := by
  rintro ⟨x0, _⟩ _
  kernel_rfl
theorem good67 {R : Type} (k : Nat) : Good tyE.P 67 false (F67 (R := R) k) :=
  fn_good tyE_ok (tab_ok (hT67 k)) A67 (nats []) (fn := Try.f67) (c := bodyOf Try.f67) (rs := [.tmp 2]) (by kernel_rfl) (by kernel_rfl) (by kernel_rfl) (by kernel_rfl) (L := L67 k) (loops_one (R := R) (by kernel_rfl) (lo67_3 k)) [.int .i64] [] [.int .i64] (g67 k) fun v w K r h => hg67 k K v w ▸ h


/-! "loop.example/localglobal/spec.l8Two" -/
noncomputable def l30_3 {R : Type} (k : Nat) : Nat → Int → Int → Int → (Int → Option R) → Option R
  | 0, _, _, _, _ => none
  | n + 1, v1, v2, v3, K0 => cond (decide ((IntKind.wrap .i64 (v3 * v3)) ≤ v1)) (f67 k (IntKind.wrap .i64 (v1 - (IntKind.wrap .i64 (v3 * v3)))) (fun r4 => cond (decide (0 ≤ r4)) (cond (decide (0 < v3)) (cond (decide (0 < r4)) (l30_3 k n v1 (IntKind.wrap .i64 (v2 + (IntKind.wrap .i64 (2 * 2)))) (IntKind.wrap .i64 (v3 + 1)) K0) (l30_3 k n v1 (IntKind.wrap .i64 (v2 + 2)) (IntKind.wrap .i64 (v3 + 1)) K0)) (cond (decide (0 < r4)) (l30_3 k n v1 (IntKind.wrap .i64 (v2 + (IntKind.wrap .i64 (2 * 1)))) (IntKind.wrap .i64 (v3 + 1)) K0) (l30_3 k n v1 (IntKind.wrap .i64 (v2 + 1)) (IntKind.wrap .i64 (v3 + 1)) K0))) (l30_3 k n v1 v2 (IntKind.wrap .i64 (v3 + 1)) K0))) (K0 v2)

noncomputable def f30 {R : Type} (k : Nat) (a0 : Int) (K : Int → Option R) : Option R :=
  l30_3 k k a0 0 0 (fun y5 => K y5)


noncomputable def g30 {R : Type} (k : Nat) (v : HT [.int .i64]) (w : HO []) (K : List SV → List Ob → Option R) : Option R := f30 k v.1 (fun r0 => K [.int .i64 r0] [])
noncomputable def F30 {R : Type} (k : Nat) : CF R := wrapF [.int .i64] [] (g30 k)
noncomputable def A30 : Ann := { pre := nats [], cut := look [(3, [0, 3, 4])], frz := fun i => match look [] i with | some l => l | none => [], fz := nats [], out := outOf [(0, [3])] (some [2]) }
noncomputable def T30 {R : Type} (k : Nat) : List (Nat × (Bool × CF R)) := [(67, (false, (F67 k)))]
noncomputable abbrev h30_3 : Shape := ⟨[(0, .int .i64), (3, .int .i64), (4, .int .i64)], []⟩
noncomputable def lf30_3 {R : Type} (k : Nat) (n : Nat) (v : h30_3.T) (K : Exit → St → Option R) : Option R := l30_3 k n v.1.1 v.1.2.1 v.1.2.2.1 (fun y0 => K (.exit 0) ⟨[(3, .s (.int .i64 y0))], []⟩)
noncomputable def L30 {R : Type} (k : Nat) (c : Code) (s : St) (K : Exit → St → Option R) : Option R := cond (Nat.beq (firstReg c) 3) ((h30_3.dec (cutAt A30 c s)).bind fun v => lf30_3 k k v K) (none)
theorem hT30 {R : Type} (k : Nat) : TabOk tyE.P (T30 (R := R) k) := ⟨(good67 k), trivial⟩
noncomputable def b30_3 : Code := nthLoop (bodyOf Try.f30) 0
theorem hs30_3 {R : Type} (k : Nat) (n : Nat) (K : Exit → St → Option R) : ∀ v, lf30_3 k (n + 1) v K = evk (look (T30 k)) tyE A30 (Func.ntmps Try.f30) (drawn (look (T30 k)) tyE A30 (nats []) (Func.ntmps Try.f30)) (L30 k) b30_3 (h30_3.enc v) (loopK A30 b30_3 h30_3.dec (lf30_3 k) n K) := by
  rintro ⟨⟨x0, x1, x2, _⟩, _⟩
  kernel_rfl
theorem lo30_3 {R : Type} (k : Nat) : LoopOk tyE.P (Func.ntmps Try.f30) (L30 (R := R) k) b30_3 :=
  fn_loop tyE_ok (tab_ok (hT30 k)) A30 (nats []) (loops_nil (R := R) (by kernel_rfl)) h30_3 (lf30_3 k) k (fun s K => by kernel_rfl) (fun v K => by kernel_rfl) fun n v K r h => hs30_3 k n K v ▸ h
theorem hg30 {R : Type} (k : Nat) (K : List SV → List Ob → Option R) : ∀ v w, g30 k v w K = runF (look (T30 k)) tyE A30 (nats []) (L30 k) (Func.ntmps Try.f30) [.tmp 2] (bodyOf Try.f30) [.int .i64] [] [.int .i64] v w K := by
  rintro ⟨x0, _⟩ _
  kernel_rfl
theorem good30 {R : Type} (k : Nat) : Good tyE.P 30 false (F30 (R := R) k) :=
  fn_good tyE_ok (tab_ok (hT30 k)) A30 (nats []) (fn := Try.f30) (c := bodyOf Try.f30) (rs := [.tmp 2]) (by kernel_rfl) (by kernel_rfl) (by kernel_rfl) (by kernel_rfl) (L := L30 k) (loops_one (R := R) (by kernel_rfl) (lo30_3 k)) [.int .i64] [] [.int .i64] (g30 k) fun v w K r h => hg30 k K v w ▸ h


/-! "loop.example/localglobal/spec.TwoEach" -/
noncomputable def f10 {R : Type} (k : Nat) (a0 : Int) (K : Int → Option R) : Option R :=
  f29 k a0 0 (fun r1 => cond (!(r1)) (K (-1)) (f30 k a0 (fun r2 => K r2)))


noncomputable def g10 {R : Type} (k : Nat) (v : HT [.int .i64]) (w : HO []) (K : List SV → List Ob → Option R) : Option R := f10 k v.1 (fun r0 => K [.int .i64 r0] [])
noncomputable def F10 {R : Type} (k : Nat) : CF R := wrapF [.int .i64] [] (g10 k)
noncomputable def A10 : Ann := { pre := nats [], cut := look [], frz := fun i => match look [] i with | some l => l | none => [], fz := nats [], out := outOf [] (some [2]) }
noncomputable def T10 {R : Type} (k : Nat) : List (Nat × (Bool × CF R)) := [(29, (false, (F29 k))), (30, (false, (F30 k)))]
noncomputable def L10 {R : Type} (k : Nat) (c : Code) (s : St) (K : Exit → St → Option R) : Option R := none
theorem hT10 {R : Type} (k : Nat) : TabOk tyE.P (T10 (R := R) k) := ⟨(good29 k), (good30 k), trivial⟩
theorem hg10 {R : Type} (k : Nat) (K : List SV → List Ob → Option R) : ∀ v w, g10 k v w K = runF (look (T10 k)) tyE A10 (nats []) (L10 k) (Func.ntmps Try.f10) [.tmp 2] (bodyOf Try.f10) [.int .i64] [] [.int .i64] v w K := by
  rintro ⟨x0, _⟩ _
  kernel_rfl
theorem good10 {R : Type} (k : Nat) : Good tyE.P 10 false (F10 (R := R) k) :=
  fn_good tyE_ok (tab_ok (hT10 k)) A10 (nats []) (fn := Try.f10) (c := bodyOf Try.f10) (rs := [.tmp 2]) (by kernel_rfl) (by kernel_rfl) (by kernel_rfl) (by kernel_rfl) (L := L10 k) (loops_nil (R := R) (by kernel_rfl)) [.int .i64] [] [.int .i64] (g10 k) fun v w K r h => hg10 k K v w ▸ h


/-! "loop.example/localglobal/impl.size" -/
noncomputable def f48 {R : Type} (k : Nat) (a0 : Int) (K : Int → Option R) : Option R :=
  K (cond (decide (a0 < (IntKind.wrap .i64 (0 - a0)))) (IntKind.wrap .i64 (0 - a0)) a0)


noncomputable def g48 {R : Type} (k : Nat) (v : HT [.int .i64]) (w : HO []) (K : List SV → List Ob → Option R) : Option R := f48 k v.1 (fun r0 => K [.int .i64 r0] [])
noncomputable def F48 {R : Type} (k : Nat) : CF R := wrapF [.int .i64] [] (g48 k)
noncomputable def A48 : Ann := { pre := nats [], cut := look [], frz := fun i => match look [] i with | some l => l | none => [], fz := nats [], out := outOf [] (some [2]) }
noncomputable def T48 {R : Type} (k : Nat) : List (Nat × (Bool × CF R)) := []
noncomputable def L48 {R : Type} (k : Nat) (c : Code) (s : St) (K : Exit → St → Option R) : Option R := none
theorem hT48 {R : Type} (k : Nat) : TabOk tyE.P (T48 (R := R) k) := trivial
theorem hg48 {R : Type} (k : Nat) (K : List SV → List Ob → Option R) : ∀ v w, g48 k v w K = runF (look (T48 k)) tyE A48 (nats []) (L48 k) (Func.ntmps Try.f48) [.tmp 2] (bodyOf Try.f48) [.int .i64] [] [.int .i64] v w K := by
  rintro ⟨x0, _⟩ _
  kernel_rfl
theorem good48 {R : Type} (k : Nat) : Good tyE.P 48 false (F48 (R := R) k) :=
  fn_good tyE_ok (tab_ok (hT48 k)) A48 (nats []) (fn := Try.f48) (c := bodyOf Try.f48) (rs := [.tmp 2]) (by kernel_rfl) (by kernel_rfl) (by kernel_rfl) (by kernel_rfl) (L := L48 k) (loops_nil (R := R) (by kernel_rfl)) [.int .i64] [] [.int .i64] (g48 k) fun v w K r h => hg48 k K v w ▸ h


/-! "loop.example/localglobal/impl.FormValid" -/
noncomputable def l31_2 {R : Type} (k : Nat) : Nat → List Int → List Int → Int → Int → (Bool → Option R) → (List Int → Option R) → Option R
  | 0, _, _, _, _, _, _ => none
  | n + 1, v1, v2, v3, v4, K0, K1 => cond (decide (v4 < v3)) (cond (decide (0 ≤ v4) && decide (v4 < ((v2).length : Int))) (cond (decide ((List.getD v2 (Int.toNat v4) 0) = 0)) (K0 false) (f48 k (List.getD v2 (Int.toNat v4) 0) (fun r5 => cond (decide (30 < r5)) (K0 false) (l31_2 k n v1 v2 v3 (IntKind.wrap .i64 (v4 + 1)) K0 K1)))) none) (K1 v1)

noncomputable def f31 {R : Type} (k : Nat) (a0 : List Int) (K : Bool → Option R) : Option R :=
  l31_2 k k a0 a0 (a0.length : Int) 0 (fun y6 => K y6) (fun y7 => cond (decide (1 ≤ (y7.length : Int))) (K (decide ((y7.length : Int) ≤ 4))) (K false))


noncomputable def g31 {R : Type} (k : Nat) (v : HT [.sl true 3 (.int .i64)]) (w : HO []) (K : List SV → List Ob → Option R) : Option R := f31 k v.1 (fun r0 => K [.bool r0] [])
noncomputable def F31 {R : Type} (k : Nat) : CF R := wrapF [.sl true 3 (.int .i64)] [] (g31 k)
noncomputable def A31 : Ann := { pre := nats [], cut := look [(2, [0, 5, 6, 7])], frz := fun i => match look [] i with | some l => l | none => [], fz := nats [], out := outOf [(0, [0])] (some [2]) }
noncomputable def T31 {R : Type} (k : Nat) : List (Nat × (Bool × CF R)) := [(48, (false, (F48 k)))]
noncomputable abbrev h31_2 : Shape := ⟨[(0, .sl true 3 (.int .i64)), (5, .sl true 3 (.int .i64)), (6, .int .i64), (7, .int .i64)], []⟩
noncomputable def lf31_2 {R : Type} (k : Nat) (n : Nat) (v : h31_2.T) (K : Exit → St → Option R) : Option R := l31_2 k n v.1.1 v.1.2.1 v.1.2.2.1 v.1.2.2.2.1 (fun y0 => K (.ret) ⟨[(2, .s (.bool y0))], []⟩) (fun y0 => K (.exit 0) ⟨[(0, .s (.sl true 3 (.int .i64) y0))], []⟩)
noncomputable def L31 {R : Type} (k : Nat) (c : Code) (s : St) (K : Exit → St → Option R) : Option R := cond (Nat.beq (firstReg c) 2) ((h31_2.dec (cutAt A31 c s)).bind fun v => lf31_2 k k v K) (none)
theorem hT31 {R : Type} (k : Nat) : TabOk tyE.P (T31 (R := R) k) := ⟨(good48 k), trivial⟩
noncomputable def b31_2 : Code := nthLoop (bodyOf Try.f31) 0
theorem hs31_2 {R : Type} (k : Nat) (n : Nat) (K : Exit → St → Option R) : ∀ v, lf31_2 k (n + 1) v K = evk (look (T31 k)) tyE A31 (Func.ntmps Try.f31) (drawn (look (T31 k)) tyE A31 (nats []) (Func.ntmps Try.f31)) (L31 k) b31_2 (h31_2.enc v) (loopK A31 b31_2 h31_2.dec (lf31_2 k) n K) := by
  rintro ⟨⟨x0, x1, x2, x3, _⟩, _⟩
  kernel_rfl
theorem lo31_2 {R : Type} (k : Nat) : LoopOk tyE.P (Func.ntmps Try.f31) (L31 (R := R) k) b31_2 :=
  fn_loop tyE_ok (tab_ok (hT31 k)) A31 (nats []) (loops_nil (R := R) (by kernel_rfl)) h31_2 (lf31_2 k) k (fun s K => by kernel_rfl) (fun v K => by kernel_rfl) fun n v K r h => hs31_2 k n K v ▸ h
theorem hg31 {R : Type} (k : Nat) (K : List SV → List Ob → Option R) : ∀ v w, g31 k v w K = runF (look (T31 k)) tyE A31 (nats []) (L31 k) (Func.ntmps Try.f31) [.tmp 2] (bodyOf Try.f31) [.sl true 3 (.int .i64)] [] [.bool] v w K := by
  rintro ⟨x0, _⟩ _
  kernel_rfl
theorem good31 {R : Type} (k : Nat) : Good tyE.P 31 false (F31 (R := R) k) :=
  fn_good tyE_ok (tab_ok (hT31 k)) A31 (nats []) (fn := Try.f31) (c := bodyOf Try.f31) (rs := [.tmp 2]) (by kernel_rfl) (by kernel_rfl) (by kernel_rfl) (by kernel_rfl) (L := L31 k) (loops_one (R := R) (by kernel_rfl) (lo31_2 k)) [.sl true 3 (.int .i64)] [] [.bool] (g31 k) fun v w K r h => hg31 k K v w ▸ h


/-! "loop.example/localglobal/impl.pair" -/
noncomputable def l34_3 {R : Type} (k : Nat) : Nat → List Int → List Int → Int → List Int → Int → Int → (Int → Option R) → Option R
  | 0, _, _, _, _, _, _, _ => none
  | n + 1, v1, v2, v3, v4, v5, v6, K0 => cond (decide (v6 < v5)) (cond (decide (0 ≤ v6) && decide (v6 < ((v4).length : Int))) (cond (decide (0 ≤ v6) && decide (v6 < ((v1).length : Int))) (cond (decide (0 ≤ v6) && decide (v6 < ((v2).length : Int))) (l34_3 k n v1 v2 (IntKind.wrap .i64 (v3 + (IntKind.wrap .i64 ((IntKind.wrap .i64 ((List.getD v4 (Int.toNat v6) 0) * (List.getD v1 (Int.toNat v6) 0))) * (List.getD v2 (Int.toNat v6) 0))))) v4 v5 (IntKind.wrap .i64 (v6 + 1)) K0) none) none) none) (K0 v3)

noncomputable def f34 {R : Type} (k : Nat) (a0 : List Int) (a1 : List Int) (a2 : List Int) (K : Int → Option R) : Option R :=
  l34_3 k k a1 a2 0 a0 (a0.length : Int) 0 (fun y7 => K y7)


noncomputable def g34 {R : Type} (k : Nat) (v : HT [.sl true 3 (.int .i64), .sl true 3 (.int .i64), .sl true 3 (.int .i64)]) (w : HO []) (K : List SV → List Ob → Option R) : Option R := f34 k v.1 v.2.1 v.2.2.1 (fun r0 => K [.int .i64 r0] [])
noncomputable def F34 {R : Type} (k : Nat) : CF R := wrapF [.sl true 3 (.int .i64), .sl true 3 (.int .i64), .sl true 3 (.int .i64)] [] (g34 k)
noncomputable def A34 : Ann := { pre := nats [], cut := look [(3, [1, 2, 7, 10, 11, 12])], frz := fun i => match look [] i with | some l => l | none => [], fz := nats [], out := outOf [(0, [7])] (some [6]) }
noncomputable def T34 {R : Type} (k : Nat) : List (Nat × (Bool × CF R)) := []
noncomputable abbrev h34_3 : Shape := ⟨[(1, .sl true 3 (.int .i64)), (2, .sl true 3 (.int .i64)), (7, .int .i64), (10, .sl true 3 (.int .i64)), (11, .int .i64), (12, .int .i64)], []⟩
noncomputable def lf34_3 {R : Type} (k : Nat) (n : Nat) (v : h34_3.T) (K : Exit → St → Option R) : Option R := l34_3 k n v.1.1 v.1.2.1 v.1.2.2.1 v.1.2.2.2.1 v.1.2.2.2.2.1 v.1.2.2.2.2.2.1 (fun y0 => K (.exit 0) ⟨[(7, .s (.int .i64 y0))], []⟩)
noncomputable def L34 {R : Type} (k : Nat) (c : Code) (s : St) (K : Exit → St → Option R) : Option R := cond (Nat.beq (firstReg c) 3) ((h34_3.dec (cutAt A34 c s)).bind fun v => lf34_3 k k v K) (none)
theorem hT34 {R : Type} (k : Nat) : TabOk tyE.P (T34 (R := R) k) := trivial
noncomputable def b34_3 : Code := nthLoop (bodyOf Try.f34) 0
theorem hs34_3 {R : Type} (k : Nat) (n : Nat) (K : Exit → St → Option R) : ∀ v, lf34_3 k (n + 1) v K = evk (look (T34 k)) tyE A34 (Func.ntmps Try.f34) (drawn (look (T34 k)) tyE A34 (nats []) (Func.ntmps Try.f34)) (L34 k) b34_3 (h34_3.enc v) (loopK A34 b34_3 h34_3.dec (lf34_3 k) n K) := by
  rintro ⟨⟨x0, x1, x2, x3, x4, x5, _⟩, _⟩
  kernel_rfl
theorem lo34_3 {R : Type} (k : Nat) : LoopOk tyE.P (Func.ntmps Try.f34) (L34 (R := R) k) b34_3 :=
  fn_loop tyE_ok (tab_ok (hT34 k)) A34 (nats []) (loops_nil (R := R) (by kernel_rfl)) h34_3 (lf34_3 k) k (fun s K => by kernel_rfl) (fun v K => by kernel_rfl) fun n v K r h => hs34_3 k n K v ▸ h
theorem hg34 {R : Type} (k : Nat) (K : List SV → List Ob → Option R) : ∀ v w, g34 k v w K = runF (look (T34 k)) tyE A34 (nats []) (L34 k) (Func.ntmps Try.f34) [.tmp 6] (bodyOf Try.f34) [.sl true 3 (.int .i64), .sl true 3 (.int .i64), .sl true 3 (.int .i64)] [] [.int .i64] v w K := by
  rintro ⟨x0, x1, x2, _⟩ _
  kernel_rfl
theorem good34 {R : Type} (k : Nat) : Good tyE.P 34 false (F34 (R := R) k) :=
  fn_good tyE_ok (tab_ok (hT34 k)) A34 (nats []) (fn := Try.f34) (c := bodyOf Try.f34) (rs := [.tmp 6]) (by kernel_rfl) (by kernel_rfl) (by kernel_rfl) (by kernel_rfl) (L := L34 k) (loops_one (R := R) (by kernel_rfl) (lo34_3 k)) [.sl true 3 (.int .i64), .sl true 3 (.int .i64), .sl true 3 (.int .i64)] [] [.int .i64] (g34 k) fun v w K r h => hg34 k K v w ▸ h


/-! "loop.example/localglobal/impl.ValueMany$1" -/
noncomputable def f33 {R : Type} (k : Nat) (a0 : List Int) (c0_0 : List Int) (c1_0 : Int) (c2_0 : Int) (K : List Int → Int → Int → Option R) : Option R :=
  f34 k c0_0 a0 a0 (fun r1 => cond (decide (r1 = c1_0)) (K c0_0 c1_0 (IntKind.wrap .i64 (c2_0 + 1))) (K c0_0 c1_0 c2_0))


noncomputable def g33 {R : Type} (k : Nat) (v : HT [.sl true 3 (.int .i64), .ref 0 0, .ref 1 0, .ref 2 0]) (w : HO [.cells 26 [.sl false 3 (.int .i64)], .cells 3 [.int .i64], .cells 3 [.int .i64]]) (K : List SV → List Ob → Option R) : Option R := f33 k v.1 w.1.1 w.2.1.1 w.2.2.1.1 (fun r0 r1 r2 => K [] [.cells 26 [.sl false 3 (.int .i64) r0], .cells 3 [.int .i64 r1], .cells 3 [.int .i64 r2]])
noncomputable def F33 {R : Type} (k : Nat) : CF R := wrapF [.sl true 3 (.int .i64), .ref 0 0, .ref 1 0, .ref 2 0] [.cells 26 [.sl false 3 (.int .i64)], .cells 3 [.int .i64], .cells 3 [.int .i64]] (g33 k)
noncomputable def A33 : Ann := { pre := nats [], cut := look [], frz := fun i => match look [] i with | some l => l | none => [], fz := nats [], out := outOf [] (some []) }
noncomputable def T33 {R : Type} (k : Nat) : List (Nat × (Bool × CF R)) := [(34, (false, (F34 k)))]
noncomputable def L33 {R : Type} (k : Nat) (c : Code) (s : St) (K : Exit → St → Option R) : Option R := none
theorem hT33 {R : Type} (k : Nat) : TabOk tyE.P (T33 (R := R) k) := ⟨(good34 k), trivial⟩
theorem hg33 {R : Type} (k : Nat) (K : List SV → List Ob → Option R) : ∀ v w, g33 k v w K = runF (look (T33 k)) tyE A33 (nats []) (L33 k) (Func.ntmps Try.f33) [] (bodyOf Try.f33) [.sl true 3 (.int .i64), .ref 0 0, .ref 1 0, .ref 2 0] [.cells 26 [.sl false 3 (.int .i64)], .cells 3 [.int .i64], .cells 3 [.int .i64]] [] v w K := by
  rintro ⟨x0, x1, x2, x3, _⟩ ⟨⟨z0_0, _⟩, ⟨z1_0, _⟩, ⟨z2_0, _⟩, _⟩
  kernel_rfl
theorem good33 {R : Type} (k : Nat) : Good tyE.P 33 false (F33 (R := R) k) :=
  fn_good tyE_ok (tab_ok (hT33 k)) A33 (nats []) (fn := Try.f33) (c := bodyOf Try.f33) (rs := []) (by kernel_rfl) (by kernel_rfl) (by kernel_rfl) (by kernel_rfl) (L := L33 k) (loops_nil (R := R) (by kernel_rfl)) [.sl true 3 (.int .i64), .ref 0 0, .ref 1 0, .ref 2 0] [.cells 26 [.sl false 3 (.int .i64)], .cells 3 [.int .i64], .cells 3 [.int .i64]] [] (g33 k) fun v w K r h => hg33 k K v w ▸ h


/-! "loop.example/localglobal/impl.vectors$1" -/
noncomputable def l68_3 {R : Type} (k : Nat) (rc : Int → Int → Int → List Int → Int → Int → List Int → (Int → Int → List Int → Int → Int → List Int → Option R) → Option R) : Nat → Int → List Int → Int → Int → List Int → Int → Int → (List Int → Int → Int → List Int → Int → Int → Option R) → Option R
  | 0, _, _, _, _, _, _, _, _ => none
  | n + 1, v4, v5, v6, v7, v8, v9, v10, K0 => cond (decide (0 ≤ v4) && decide (v4 < ((v5).length : Int))) (cond (decide ((List.getD v5 (Int.toNat v4) 0) ≤ v7)) (rc (IntKind.wrap .i64 (v4 + 1)) v6 v7 v8 v9 v10 v5 (fun r11 r12 r13 r14 r15 r16 => cond (decide (0 ≤ v4) && decide (v4 < ((r16).length : Int))) (cond (decide (0 ≤ v4) && decide (v4 < ((r16).length : Int))) (l68_3 k rc n v4 (List.set r16 (Int.toNat v4) (IntKind.wrap .i64 ((List.getD r16 (Int.toNat v4) 0) + 1))) r11 r12 r13 r14 r15 K0) none) none)) (K0 v5 v6 v7 v8 v9 v10)) none

noncomputable def f68 {R : Type} (k : Nat) : Nat → Int → Int → Int → List Int → Int → Int → List Int → (Int → Int → List Int → Int → Int → List Int → Option R) → Option R
  | 0, _, _, _, _, _, _, _, _ => none
  | d + 1, a0, c0_0, c3_0, c5_0, c6_0, c7_0, c8, K =>
    let rc := f68 k d
    cond (decide (a0 = c0_0)) (f33 k c8 c5_0 c6_0 c7_0 (fun r1 r2 r3 => K c0_0 c3_0 r1 r2 r3 c8)) (cond (decide (0 ≤ a0) && decide (a0 < ((c8).length : Int))) (l68_3 k rc k a0 (List.set c8 (Int.toNat a0) (IntKind.wrap .i64 (0 - c3_0))) c0_0 c3_0 c5_0 c6_0 c7_0 (fun y17 y18 y19 y20 y21 y22 => K y18 y19 y20 y21 y22 y17)) none)


noncomputable def g68 {R : Type} (k d : Nat) (v : HT [.int .i64, .ref 0 0, .ref 1 0, .ref 2 0, .ref 3 0, .ref 4 0]) (w : HO [.cells 3 [.int .i64], .cells 49 [.clo 33 [5, 6, 7]], .cells 26 [.slo 8], .cells 3 [.int .i64], .cells 68 [.clo 68 [0, 1, 2, 3, 4]], .cells 26 [.sl false 3 (.int .i64)], .cells 3 [.int .i64], .cells 3 [.int .i64], .arr 3 (.int .i64)]) (K : List SV → List Ob → Option R) : Option R := f68 k d v.1 w.1.1 w.2.2.2.1.1 w.2.2.2.2.2.1.1 w.2.2.2.2.2.2.1.1 w.2.2.2.2.2.2.2.1.1 w.2.2.2.2.2.2.2.2.1 (fun r0 r1 r2 r3 r4 r5 => K [] [.cells 3 [.int .i64 r0], .cells 49 [.clo 33 [5, 6, 7]], .cells 26 [.slo 8], .cells 3 [.int .i64 r1], .cells 68 [.clo 68 [0, 1, 2, 3, 4]], .cells 26 [.sl false 3 (.int .i64) r2], .cells 3 [.int .i64 r3], .cells 3 [.int .i64 r4], .arr 3 (.int .i64) r5])
noncomputable def F68 {R : Type} (k d : Nat) : CF R := wrapF [.int .i64, .ref 0 0, .ref 1 0, .ref 2 0, .ref 3 0, .ref 4 0] [.cells 3 [.int .i64], .cells 49 [.clo 33 [5, 6, 7]], .cells 26 [.slo 8], .cells 3 [.int .i64], .cells 68 [.clo 68 [0, 1, 2, 3, 4]], .cells 26 [.sl false 3 (.int .i64)], .cells 3 [.int .i64], .cells 3 [.int .i64], .arr 3 (.int .i64)] (g68 k d)
noncomputable def A68 : Ann := { pre := nats [], cut := look [(3, [0, 3, 4, 5])], frz := fun i => match look [] i with | some l => l | none => [], fz := nats [], out := outOf [(0, [])] (some []) }
noncomputable def T68 {R : Type} (k d : Nat) : List (Nat × (Bool × CF R)) := [(33, (false, (F33 k))), (68, (false, (F68 k d)))]
noncomputable abbrev h68_3 : Shape := ⟨[(0, .int .i64), (3, .ref 2 0), (4, .ref 3 0), (5, .ref 4 0)], [(8, .arr 3 (.int .i64)), (0, .cells 3 [.int .i64]), (1, .cells 49 [.clo 33 [5, 6, 7]]), (2, .cells 26 [.slo 8]), (3, .cells 3 [.int .i64]), (4, .cells 68 [.clo 68 [0, 1, 2, 3, 4]]), (5, .cells 26 [.sl false 3 (.int .i64)]), (6, .cells 3 [.int .i64]), (7, .cells 3 [.int .i64])]⟩
noncomputable def lf68_3 {R : Type} (k d : Nat) (n : Nat) (v : h68_3.T) (K : Exit → St → Option R) : Option R := l68_3 k (f68 k d) n v.1.1 v.2.1 v.2.2.1.1 v.2.2.2.2.2.1.1 v.2.2.2.2.2.2.2.1.1 v.2.2.2.2.2.2.2.2.1.1 v.2.2.2.2.2.2.2.2.2.1.1 (fun y0 y1 y2 y3 y4 y5 => K (.exit 0) ⟨[], [(8, .arr 3 (.int .i64) y0), (0, .cells 3 [.int .i64 y1]), (1, .cells 49 [.clo 33 [5, 6, 7]]), (2, .cells 26 [.slo 8]), (3, .cells 3 [.int .i64 y2]), (4, .cells 68 [.clo 68 [0, 1, 2, 3, 4]]), (5, .cells 26 [.sl false 3 (.int .i64) y3]), (6, .cells 3 [.int .i64 y4]), (7, .cells 3 [.int .i64 y5])]⟩)
noncomputable def L68 {R : Type} (k d : Nat) (c : Code) (s : St) (K : Exit → St → Option R) : Option R := cond (Nat.beq (firstReg c) 3) ((h68_3.dec (cutAt A68 c s)).bind fun v => lf68_3 k d k v K) (none)
theorem hT68 {R : Type} (k d : Nat) (hrec : Good tyE.P 68 false (F68 (R := R) k d)) : TabOk tyE.P (T68 (R := R) k d) := ⟨(good33 k), hrec, trivial⟩
noncomputable def b68_3 : Code := nthLoop (bodyOf Try.f68) 0
theorem hs68_3 {R : Type} (k d : Nat) (n : Nat) (K : Exit → St → Option R) : ∀ v, lf68_3 k d (n + 1) v K = evk (look (T68 k d)) tyE A68 (Func.ntmps Try.f68) (drawn (look (T68 k d)) tyE A68 (nats []) (Func.ntmps Try.f68)) (L68 k d) b68_3 (h68_3.enc v) (loopK A68 b68_3 h68_3.dec (lf68_3 k d) n K) := by
  rintro ⟨⟨x0, _, _, _, _⟩, ⟨x1, ⟨x2, _⟩, ⟨_, _⟩, ⟨_, _⟩, ⟨x3, _⟩, ⟨_, _⟩, ⟨x4, _⟩, ⟨x5, _⟩, ⟨x6, _⟩, _⟩⟩
  kernel_rfl
theorem lo68_3 {R : Type} (k d : Nat) (hrec : Good tyE.P 68 false (F68 (R := R) k d)) : LoopOk tyE.P (Func.ntmps Try.f68) (L68 (R := R) k d) b68_3 :=
  fn_loop tyE_ok (tab_ok (hT68 k d hrec)) A68 (nats []) (loops_nil (R := R) (by kernel_rfl)) h68_3 (lf68_3 k d) k (fun s K => by kernel_rfl) (fun v K => by kernel_rfl) fun n v K r h => hs68_3 k d n K v ▸ h
theorem hg68 {R : Type} (k d : Nat) (K : List SV → List Ob → Option R) : ∀ v w, g68 k (d + 1) v w K = runF (look (T68 k d)) tyE A68 (nats []) (L68 k d) (Func.ntmps Try.f68) [] (bodyOf Try.f68) [.int .i64, .ref 0 0, .ref 1 0, .ref 2 0, .ref 3 0, .ref 4 0] [.cells 3 [.int .i64], .cells 49 [.clo 33 [5, 6, 7]], .cells 26 [.slo 8], .cells 3 [.int .i64], .cells 68 [.clo 68 [0, 1, 2, 3, 4]], .cells 26 [.sl false 3 (.int .i64)], .cells 3 [.int .i64], .cells 3 [.int .i64], .arr 3 (.int .i64)] [] v w K := by
  rintro ⟨x0, x1, x2, x3, x4, x5, _⟩ ⟨⟨z0_0, _⟩, ⟨z1_0, _⟩, ⟨z2_0, _⟩, ⟨z3_0, _⟩, ⟨z4_0, _⟩, ⟨z5_0, _⟩, ⟨z6_0, _⟩, ⟨z7_0, _⟩, z8, _⟩
  kernel_rfl
theorem good68 {R : Type} (k : Nat) : ∀ d, Good tyE.P 68 false (F68 (R := R) k d)
  | 0 => none_good (wrap_none _ _ fun v w K => by kernel_rfl)
  | d + 1 => fn_good tyE_ok (tab_ok (hT68 k d (good68 k d))) A68 (nats []) (fn := Try.f68) (c := bodyOf Try.f68) (rs := []) (by kernel_rfl) (by kernel_rfl) (by kernel_rfl) (by kernel_rfl) (L := L68 k d) (loops_one (R := R) (by kernel_rfl) (lo68_3 k d (good68 k d))) [.int .i64, .ref 0 0, .ref 1 0, .ref 2 0, .ref 3 0, .ref 4 0] [.cells 3 [.int .i64], .cells 49 [.clo 33 [5, 6, 7]], .cells 26 [.slo 8], .cells 3 [.int .i64], .cells 68 [.clo 68 [0, 1, 2, 3, 4]], .cells 26 [.sl false 3 (.int .i64)], .cells 3 [.int .i64], .cells 3 [.int .i64], .arr 3 (.int .i64)] [] (g68 k (d + 1)) fun v w K r h => hg68 k d K v w ▸ h


/-! "loop.example/localglobal/impl.vectors" -/
noncomputable def f32 {R : Type} (k : Nat) (a0 : Int) (a1 : Int) (c0_0 : List Int) (c1_0 : Int) (c2_0 : Int) (K : List Int → Int → Int → Option R) : Option R :=
  cond (decide (0 ≤ a0) && decide (a0 ≤ a0) && decide (a0 ≤ 4294967296)) (f68 k k 0 a0 a1 c0_0 c1_0 c2_0 (List.replicate (Int.toNat a0) 0) (fun r1 r2 r3 r4 r5 r6 => K r3 r4 r5)) none


noncomputable def g32 {R : Type} (k : Nat) (v : HT [.int .i64, .int .i64, .clo 33 [0, 1, 2]]) (w : HO [.cells 26 [.sl false 3 (.int .i64)], .cells 3 [.int .i64], .cells 3 [.int .i64]]) (K : List SV → List Ob → Option R) : Option R := f32 k v.1 v.2.1 w.1.1 w.2.1.1 w.2.2.1.1 (fun r0 r1 r2 => K [] [.cells 26 [.sl false 3 (.int .i64) r0], .cells 3 [.int .i64 r1], .cells 3 [.int .i64 r2]])
noncomputable def F32 {R : Type} (k : Nat) : CF R := wrapF [.int .i64, .int .i64, .clo 33 [0, 1, 2]] [.cells 26 [.sl false 3 (.int .i64)], .cells 3 [.int .i64], .cells 3 [.int .i64]] (g32 k)
noncomputable def A32 : Ann := { pre := nats [], cut := look [], frz := fun i => match look [] i with | some l => l | none => [], fz := nats [], out := outOf [] (some []) }
noncomputable def T32 {R : Type} (k : Nat) : List (Nat × (Bool × CF R)) := [(68, (false, (F68 k k)))]
noncomputable def L32 {R : Type} (k : Nat) (c : Code) (s : St) (K : Exit → St → Option R) : Option R := none
theorem hT32 {R : Type} (k : Nat) : TabOk tyE.P (T32 (R := R) k) := ⟨(good68 k k), trivial⟩
theorem hg32 {R : Type} (k : Nat) (K : List SV → List Ob → Option R) : ∀ v w, g32 k v w K = runF (look (T32 k)) tyE A32 (nats []) (L32 k) (Func.ntmps Try.f32) [] (bodyOf Try.f32) [.int .i64, .int .i64, .clo 33 [0, 1, 2]] [.cells 26 [.sl false 3 (.int .i64)], .cells 3 [.int .i64], .cells 3 [.int .i64]] [] v w K := by
  rintro ⟨x0, x1, x2, _⟩ ⟨⟨z0_0, _⟩, ⟨z1_0, _⟩, ⟨z2_0, _⟩, _⟩
  kernel_rfl
theorem good32 {R : Type} (k : Nat) : Good tyE.P 32 false (F32 (R := R) k) :=
  fn_good tyE_ok (tab_ok (hT32 k)) A32 (nats []) (fn := Try.f32) (c := bodyOf Try.f32) (rs := []) (by kernel_rfl) (by kernel_rfl) (by kernel_rfl) (by kernel_rfl) (L := L32 k) (loops_nil (R := R) (by kernel_rfl)) [.int .i64, .int .i64, .clo 33 [0, 1, 2]] [.cells 26 [.sl false 3 (.int .i64)], .cells 3 [.int .i64], .cells 3 [.int .i64]] [] (g32 k) fun v w K r h => hg32 k K v w ▸ h


/-! "loop.example/localglobal/impl.ValueMany" -/
noncomputable def f11 {R : Type} (k : Nat) (a0 : List Int) (a1 : Int) (a2 : Int) (K : Int → Option R) : Option R :=
  f31 k a0 (fun r1 => cond (!(r1)) (K (-1)) (cond (decide (a1 < (-1000))) (K (-1)) (cond (decide (1000 < a1)) (K (-1)) (cond (decide (a2 < 1)) (K (-1)) (cond (decide (6 < a2)) (K (-1)) (f32 k (a0.length : Int) a2 a0 a1 0 (fun r2 r3 r4 => K r4)))))))


noncomputable def g11 {R : Type} (k : Nat) (v : HT [.sl false 3 (.int .i64), .int .i64, .int .i64]) (w : HO []) (K : List SV → List Ob → Option R) : Option R := f11 k v.1 v.2.1 v.2.2.1 (fun r0 => K [.int .i64 r0] [])
noncomputable def F11 {R : Type} (k : Nat) : CF R := wrapF [.sl false 3 (.int .i64), .int .i64, .int .i64] [] (g11 k)
noncomputable def A11 : Ann := { pre := nats [], cut := look [], frz := fun i => match look [] i with | some l => l | none => [], fz := nats [], out := outOf [] (some [6]) }
noncomputable def T11 {R : Type} (k : Nat) : List (Nat × (Bool × CF R)) := [(31, (false, (F31 k))), (32, (false, (F32 k)))]
noncomputable def L11 {R : Type} (k : Nat) (c : Code) (s : St) (K : Exit → St → Option R) : Option R := none
theorem hT11 {R : Type} (k : Nat) : TabOk tyE.P (T11 (R := R) k) := ⟨(good31 k), (good32 k), trivial⟩
theorem hg11 {R : Type} (k : Nat) (K : List SV → List Ob → Option R) : ∀ v w, g11 k v w K = runF (look (T11 k)) tyE A11 (nats []) (L11 k) (Func.ntmps Try.f11) [.tmp 6] (bodyOf Try.f11) [.sl false 3 (.int .i64), .int .i64, .int .i64] [] [.int .i64] v w K := by
  rintro ⟨x0, x1, x2, _⟩ _
  kernel_rfl
theorem good11 {R : Type} (k : Nat) : Good tyE.P 11 false (F11 (R := R) k) :=
  fn_good tyE_ok (tab_ok (hT11 k)) A11 (nats []) (fn := Try.f11) (c := bodyOf Try.f11) (rs := [.tmp 6]) (by kernel_rfl) (by kernel_rfl) (by kernel_rfl) (by kernel_rfl) (L := L11 k) (loops_nil (R := R) (by kernel_rfl)) [.sl false 3 (.int .i64), .int .i64, .int .i64] [] [.int .i64] (g11 k) fun v w K r h => hg11 k K v w ▸ h


/-! "loop.example/localglobal/laws.FnTwoEach" -/
noncomputable def f3 {R : Type} (k : Nat) (a0 : List Int) (K : Bool → Option R) : Option R :=
  cond (decide (1048576 < (a0.length : Int))) (K true) (f8 k a0 (fun r1 => f9 k r1 (fun r2 => f10 k r1 (fun r3 => cond (!decide (r2 = r3)) (K (decide (r2 = r3))) (cond (decide (r2 < 0)) (K (decide (r2 = r3))) (f11 k [1, 1] r1 6 (fun r4 => cond (decide (r1 = 0)) (cond (decide (r2 = 1)) (cond (decide (r4 = (-1))) (K true) (cond (decide (r4 ≤ r2)) (cond (decide (49 ≤ r1)) (K true) (K (decide (r4 = r2)))) (K false))) (cond (decide (0 < r1)) (cond (decide ((Int.tmod r2 4) = 0)) (cond (decide (r4 = (-1))) (K true) (cond (decide (r4 ≤ r2)) (cond (decide (49 ≤ r1)) (K true) (K (decide (r4 = r2)))) (K false))) (K false)) (K false))) (cond (decide (0 < r1)) (cond (decide ((Int.tmod r2 4) = 0)) (cond (decide (r4 = (-1))) (K true) (cond (decide (r4 ≤ r2)) (cond (decide (49 ≤ r1)) (K true) (K (decide (r4 = r2)))) (K false))) (K false)) (K false)))))))))


noncomputable def g3 {R : Type} (k : Nat) (v : HT [.sl true 5 (.int .u8)]) (w : HO []) (K : List SV → List Ob → Option R) : Option R := f3 k v.1 (fun r0 => K [.bool r0] [])
noncomputable def F3 {R : Type} (k : Nat) : CF R := wrapF [.sl true 5 (.int .u8)] [] (g3 k)
noncomputable def A3 : Ann := { pre := nats [], cut := look [], frz := fun i => match look [] i with | some l => l | none => [], fz := nats [26], out := outOf [] (some [2]) }
noncomputable def T3 {R : Type} (k : Nat) : List (Nat × (Bool × CF R)) := [(10, (false, (F10 k))), (11, (false, (F11 k))), (8, (false, (F8 k))), (9, (false, (F9 k)))]
noncomputable def L3 {R : Type} (k : Nat) (c : Code) (s : St) (K : Exit → St → Option R) : Option R := none
theorem hT3 {R : Type} (k : Nat) : TabOk tyE.P (T3 (R := R) k) := ⟨(good10 k), (good11 k), (good8 k), (good9 k), trivial⟩
theorem hg3 {R : Type} (k : Nat) (K : List SV → List Ob → Option R) : ∀ v w, g3 k v w K = runF (look (T3 k)) tyE A3 (nats []) (L3 k) (Func.ntmps Try.f3) [.tmp 2] (bodyOf Try.f3) [.sl true 5 (.int .u8)] [] [.bool] v w K := by
  rintro ⟨x0, _⟩ _
  kernel_rfl
theorem good3 {R : Type} (k : Nat) : Good tyE.P 3 false (F3 (R := R) k) :=
  fn_good tyE_ok (tab_ok (hT3 k)) A3 (nats []) (fn := Try.f3) (c := bodyOf Try.f3) (rs := [.tmp 2]) (by kernel_rfl) (by kernel_rfl) (by kernel_rfl) (by kernel_rfl) (L := L3 k) (loops_nil (R := R) (by kernel_rfl)) [.sl true 5 (.int .u8)] [] [.bool] (g3 k) fun v w K r h => hg3 k K v w ▸ h


end Go.Proofs.Ytmmadcccjicdcaa.E
