/- The program's functions as plain Lean functions, and that the program comes to what they say. -/
import Derived.Test.YtmmadcccjicdcaaG5
namespace Go.Proofs.Ytmmadcccjicdcaa.E
set_option linter.unusedVariables false
set_option maxRecDepth 100000

/-! "loop.example/localglobal/laws.sameInts" -/
noncomputable def l_laws_sameInts_4 {R : Type} (k : Nat) : Nat → List Int → List Int → Int → (Bool → Option R) → (Option R) → Option R
  | 0, _, _, _, _, _ => none
  | n + 1, v1, v2, v3, K0, K1 => cond (decide (v3 < (v1.length : Int))) (cond (decide (0 ≤ v3) && decide (v3 < ((v1).length : Int))) (cond (decide (0 ≤ v3) && decide (v3 < ((v2).length : Int))) (cond (!decide ((List.getD v1 (Int.toNat v3) 0) = (List.getD v2 (Int.toNat v3) 0))) (K0 false) (l_laws_sameInts_4 k n v1 v2 (IntKind.wrap .i64 (v3 + 1)) K0 K1)) none) none) (K1)

noncomputable def f_laws_sameInts {R : Type} (k : Nat) (a0 : List Int) (a1 : List Int) (K : Bool → Option R) : Option R :=
  cond (!decide ((a0.length : Int) = (a1.length : Int))) (K false) (l_laws_sameInts_4 k k a0 a1 0 (fun y4 => K y4) (K true))


noncomputable def g_laws_sameInts {R : Type} (k : Nat) (v : HT [.sl true 3 (.int .i64), .sl true 3 (.int .i64)]) (w : HO []) (K : List SV → List Ob → Option R) : Option R := f_laws_sameInts k v.1 v.2.1 (fun r0 => K [.bool r0] [])
noncomputable def F_laws_sameInts {R : Type} (k : Nat) : CF R := wrapF [.sl true 3 (.int .i64), .sl true 3 (.int .i64)] [] (g_laws_sameInts k)
noncomputable def A_laws_sameInts : Ann := { pre := nats [], cut := look [(4, [0, 1, 5])], frz := fun i => match look [] i with | some l => l | none => [], fz := nats [], out := outOf [(0, [])] (some [4]) }
noncomputable def T_laws_sameInts {R : Type} (k : Nat) : List (Nat × (Bool × CF R)) := []
noncomputable abbrev h_laws_sameInts_4 : Shape := ⟨[(0, .sl true 3 (.int .i64)), (1, .sl true 3 (.int .i64)), (5, .int .i64)], []⟩
noncomputable def lf_laws_sameInts_4 {R : Type} (k : Nat) (n : Nat) (v : h_laws_sameInts_4.T) (K : Exit → St → Option R) : Option R := l_laws_sameInts_4 k n v.1.1 v.1.2.1 v.1.2.2.1 (fun y0 => K (.ret) ⟨[(4, .s (.bool y0))], []⟩) (K (.exit 0) ⟨[], []⟩)
noncomputable def L_laws_sameInts {R : Type} (k : Nat) (c : Code) (s : St) (K : Exit → St → Option R) : Option R := cond (Nat.beq (firstReg c) 4) ((h_laws_sameInts_4.dec (cutAt A_laws_sameInts c s)).bind fun v => lf_laws_sameInts_4 k k v K) (none)
theorem hT_laws_sameInts {R : Type} (k : Nat) : TabOk tyE.P (T_laws_sameInts (R := R) k) := trivial
noncomputable def b_laws_sameInts_4 : Code := nthLoop (bodyOf Try.f25) 0
theorem hs_laws_sameInts_4 {R : Type} (k : Nat) (n : Nat) (K : Exit → St → Option R) : ∀ v, lf_laws_sameInts_4 k (n + 1) v K = evk (look (T_laws_sameInts k)) tyE A_laws_sameInts (Func.ntmps Try.f25) (drawn (look (T_laws_sameInts k)) tyE A_laws_sameInts (nats []) (Func.ntmps Try.f25)) (L_laws_sameInts k) b_laws_sameInts_4 (h_laws_sameInts_4.enc v) (loopK A_laws_sameInts b_laws_sameInts_4 h_laws_sameInts_4.dec (lf_laws_sameInts_4 k) n K) := by
  rintro ⟨⟨x0, x1, x2, _⟩, _⟩
  kernel_rfl
theorem lo_laws_sameInts_4 {R : Type} (k : Nat) : LoopOk tyE.P (Func.ntmps Try.f25) (L_laws_sameInts (R := R) k) b_laws_sameInts_4 :=
  fn_loop tyE_ok (tab_ok (hT_laws_sameInts k)) A_laws_sameInts (nats []) (loops_nil (R := R) (by kernel_rfl)) h_laws_sameInts_4 (lf_laws_sameInts_4 k) k (fun s K => by kernel_rfl) (fun v K => by kernel_rfl) fun n v K r h => hs_laws_sameInts_4 k n K v ▸ h
theorem hg_laws_sameInts {R : Type} (k : Nat) (K : List SV → List Ob → Option R) : ∀ v w, g_laws_sameInts k v w K = runF (look (T_laws_sameInts k)) tyE A_laws_sameInts (nats []) (L_laws_sameInts k) (Func.ntmps Try.f25) [.tmp 4] (bodyOf Try.f25) [.sl true 3 (.int .i64), .sl true 3 (.int .i64)] [] [.bool] v w K := by
  rintro ⟨x0, x1, _⟩ _
  kernel_rfl
theorem good_laws_sameInts {R : Type} (k : Nat) : Good tyE.P 25 false (F_laws_sameInts (R := R) k) :=
  fn_good tyE_ok (tab_ok (hT_laws_sameInts k)) A_laws_sameInts (nats []) (fn := Try.f25) (c := bodyOf Try.f25) (rs := [.tmp 4]) (by kernel_rfl) (by kernel_rfl) (by kernel_rfl) (by kernel_rfl) (L := L_laws_sameInts k) (loops_one (R := R) (by kernel_rfl) (lo_laws_sameInts_4 k)) [.sl true 3 (.int .i64), .sl true 3 (.int .i64)] [] [.bool] (g_laws_sameInts k) fun v w K r h => hg_laws_sameInts k K v w ▸ h


/-! "loop.example/localglobal/laws.FnValueFind" -/
noncomputable def l_laws_FnValueFind_10 {R : Type} (k : Nat) : Nat → List Int → Int → List Int → Int → Int → Int → (List Int → Int → Int → Int → Option R) → Option R
  | 0, _, _, _, _, _, _, _ => none
  | n + 1, v14, v15, v16, v17, v18, v19, K0 => cond (decide (v19 < (v14.length : Int))) (cond (decide (0 ≤ v19) && decide (v19 < ((v14).length : Int))) (cond (decide (0 ≤ v19) && decide (v19 < ((v16).length : Int))) (cond (decide (0 ≤ v19) && decide (v19 < ((v16).length : Int))) (l_laws_FnValueFind_10 k n v14 v15 v16 v17 (IntKind.wrap .i64 (v18 + (IntKind.wrap .i64 ((IntKind.wrap .i64 ((List.getD v14 (Int.toNat v19) 0) * (List.getD v16 (Int.toNat v19) 0))) * (List.getD v16 (Int.toNat v19) 0))))) (IntKind.wrap .i64 (v19 + 1)) K0) none) none) none) (K0 v14 v15 v17 v18)

noncomputable def f_laws_FnValueFind {R : Type} (k : Nat) (a0 : List Int) (K : Bool → Option R) : Option R :=
  cond (decide (1048576 < (a0.length : Int))) (K true) (f_spec_DrawValueFind k a0 (fun r1 r2 => f_impl_ValueFind k r1 r2 (fun r3 r4 r5 => f_spec_ValueFind k r1 r2 (fun r6 r7 r8 => cond (!(r5 == r8)) (cond ((r5 == r8)) (f_laws_sameInts k r3 r6 (fun r9 => cond (r9) (K (decide (r4 = r7))) (K false))) (K false)) (f_laws_sameInts k r3 r6 (fun r10 => cond (!(r10)) (cond ((r5 == r8)) (f_laws_sameInts k r3 r6 (fun r11 => cond (r11) (K (decide (r4 = r7))) (K false))) (K false)) (cond (!decide (r4 = r7)) (cond ((r5 == r8)) (f_laws_sameInts k r3 r6 (fun r12 => cond (r12) (K (decide (r4 = r7))) (K false))) (K false)) (cond (!(r5)) (cond ((r5 == r8)) (f_laws_sameInts k r3 r6 (fun r13 => cond (r13) (K (decide (r4 = r7))) (K false))) (K false)) (l_laws_FnValueFind_10 k k r1 r2 r3 r4 0 0 (fun y20 y21 y22 y23 => cond (decide (y23 = (IntKind.wrap .i64 ((IntKind.wrap .i64 (y21 * y22)) * y22)))) (cond (decide (1 ≤ y22)) (f_impl_ValueEverywhere k y20 y21 (fun r24 => K r24)) (K false)) (K false)))))))))))


noncomputable def g_laws_FnValueFind {R : Type} (k : Nat) (v : HT [.sl true 5 (.int .u8)]) (w : HO []) (K : List SV → List Ob → Option R) : Option R := f_laws_FnValueFind k v.1 (fun r0 => K [.bool r0] [])
noncomputable def F_laws_FnValueFind {R : Type} (k : Nat) : CF R := wrapF [.sl true 5 (.int .u8)] [] (g_laws_FnValueFind k)
noncomputable def A_laws_FnValueFind : Ann := { pre := nats [], cut := look [(10, [3, 4, 5, 6, 11, 12])], frz := fun i => match look [] i with | some l => l | none => [], fz := nats [], out := outOf [(0, [3, 4, 6, 11])] (some [2]) }
noncomputable def T_laws_FnValueFind {R : Type} (k : Nat) : List (Nat × (Bool × CF R)) := [(16, (false, (F_impl_ValueEverywhere k))), (23, (false, (F_impl_ValueFind k))), (25, (false, (F_laws_sameInts k))), (22, (false, (F_spec_DrawValueFind k))), (24, (false, (F_spec_ValueFind k)))]
noncomputable abbrev h_laws_FnValueFind_10 : Shape := ⟨[(3, .sl false 3 (.int .i64)), (4, .int .i64), (5, .sl false 3 (.int .i64)), (6, .int .i64), (11, .int .i64), (12, .int .i64)], []⟩
noncomputable def lf_laws_FnValueFind_10 {R : Type} (k : Nat) (n : Nat) (v : h_laws_FnValueFind_10.T) (K : Exit → St → Option R) : Option R := l_laws_FnValueFind_10 k n v.1.1 v.1.2.1 v.1.2.2.1 v.1.2.2.2.1 v.1.2.2.2.2.1 v.1.2.2.2.2.2.1 (fun y0 y1 y2 y3 => K (.exit 0) ⟨[(3, .s (.sl false 3 (.int .i64) y0)), (4, .s (.int .i64 y1)), (6, .s (.int .i64 y2)), (11, .s (.int .i64 y3))], []⟩)
noncomputable def L_laws_FnValueFind {R : Type} (k : Nat) (c : Code) (s : St) (K : Exit → St → Option R) : Option R := cond (Nat.beq (firstReg c) 10) ((h_laws_FnValueFind_10.dec (cutAt A_laws_FnValueFind c s)).bind fun v => lf_laws_FnValueFind_10 k k v K) (none)
theorem hT_laws_FnValueFind {R : Type} (k : Nat) : TabOk tyE.P (T_laws_FnValueFind (R := R) k) := ⟨(good_impl_ValueEverywhere k), (good_impl_ValueFind k), (good_laws_sameInts k), (good_spec_DrawValueFind k), (good_spec_ValueFind k), trivial⟩
noncomputable def b_laws_FnValueFind_10 : Code := nthLoop (bodyOf Try.f6) 0
theorem hs_laws_FnValueFind_10 {R : Type} (k : Nat) (n : Nat) (K : Exit → St → Option R) : ∀ v, lf_laws_FnValueFind_10 k (n + 1) v K = evk (look (T_laws_FnValueFind k)) tyE A_laws_FnValueFind (Func.ntmps Try.f6) (drawn (look (T_laws_FnValueFind k)) tyE A_laws_FnValueFind (nats []) (Func.ntmps Try.f6)) (L_laws_FnValueFind k) b_laws_FnValueFind_10 (h_laws_FnValueFind_10.enc v) (loopK A_laws_FnValueFind b_laws_FnValueFind_10 h_laws_FnValueFind_10.dec (lf_laws_FnValueFind_10 k) n K) := by
  rintro ⟨⟨x0, x1, x2, x3, x4, x5, _⟩, _⟩
  kernel_rfl
theorem lo_laws_FnValueFind_10 {R : Type} (k : Nat) : LoopOk tyE.P (Func.ntmps Try.f6) (L_laws_FnValueFind (R := R) k) b_laws_FnValueFind_10 :=
  fn_loop tyE_ok (tab_ok (hT_laws_FnValueFind k)) A_laws_FnValueFind (nats []) (loops_nil (R := R) (by kernel_rfl)) h_laws_FnValueFind_10 (lf_laws_FnValueFind_10 k) k (fun s K => by kernel_rfl) (fun v K => by kernel_rfl) fun n v K r h => hs_laws_FnValueFind_10 k n K v ▸ h
theorem hg_laws_FnValueFind {R : Type} (k : Nat) (K : List SV → List Ob → Option R) : ∀ v w, g_laws_FnValueFind k v w K = runF (look (T_laws_FnValueFind k)) tyE A_laws_FnValueFind (nats []) (L_laws_FnValueFind k) (Func.ntmps Try.f6) [.tmp 2] (bodyOf Try.f6) [.sl true 5 (.int .u8)] [] [.bool] v w K := by
  rintro ⟨x0, _⟩ _
  kernel_rfl
theorem good_laws_FnValueFind {R : Type} (k : Nat) : Good tyE.P 6 false (F_laws_FnValueFind (R := R) k) :=
  fn_good tyE_ok (tab_ok (hT_laws_FnValueFind k)) A_laws_FnValueFind (nats []) (fn := Try.f6) (c := bodyOf Try.f6) (rs := [.tmp 2]) (by kernel_rfl) (by kernel_rfl) (by kernel_rfl) (by kernel_rfl) (L := L_laws_FnValueFind k) (loops_one (R := R) (by kernel_rfl) (lo_laws_FnValueFind_10 k)) [.sl true 5 (.int .u8)] [] [.bool] (g_laws_FnValueFind k) fun v w K r h => hg_laws_FnValueFind k K v w ▸ h


end Go.Proofs.Ytmmadcccjicdcaa.E
