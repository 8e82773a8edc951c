/- The program's functions as plain Lean functions, and that the program comes to what they say. -/
import Derived.Test.YtmmadcccjicdcaaG5d
namespace Go.Proofs.Ytmmadcccjicdcaa.E
set_option linter.unusedVariables false
set_option maxRecDepth 100000

/-! "loop.example/localglobal/spec.DrawPlanesRest" -/
noncomputable def f_spec_DrawPlanesRest {R : Type} (k : Nat) (a0 : List Int) (K : List Int → Option R) : Option R :=
  f_spec_l6Open k a0 (fun r1 r2 => f_spec_l6Rd_pick k 12 r1 r2 (fun r3 r4 r5 => f_spec_l92Form k (IntKind.wrap .i64 (3 - (IntKind.wrap .i64 (Int.tdiv r3 11)))) r4 r5 (fun r6 r7 r8 => K r6)))


noncomputable def g_spec_DrawPlanesRest {R : Type} (k : Nat) (v : HT [.sl true 5 (.int .u8)]) (w : HO []) (K : List SV → List Ob → Option R) : Option R := f_spec_DrawPlanesRest k v.1 (fun r0 => K [.sl false 3 (.int .i64) r0] [])
noncomputable def F_spec_DrawPlanesRest {R : Type} (k : Nat) : CF R := wrapF [.sl true 5 (.int .u8)] [] (g_spec_DrawPlanesRest k)
noncomputable def A_spec_DrawPlanesRest : Ann := { pre := nats [], cut := look [], frz := fun i => match look [] i with | some l => l | none => [], fz := nats [], out := outOf [] (some [2]) }
noncomputable def T_spec_DrawPlanesRest {R : Type} (k : Nat) : List (Nat × (Bool × CF R)) := [(27, (false, (F_spec_l6Open k))), (36, (false, (F_spec_l6Rd_pick k))), (46, (false, (F_spec_l92Form k)))]
noncomputable def L_spec_DrawPlanesRest {R : Type} (k : Nat) (c : Code) (s : St) (K : Exit → St → Option R) : Option R := none
theorem hT_spec_DrawPlanesRest {R : Type} (k : Nat) : TabOk tyE.P (T_spec_DrawPlanesRest (R := R) k) := ⟨(good_spec_l6Open k), (good_spec_l6Rd_pick k), (good_spec_l92Form k), trivial⟩
theorem hg_spec_DrawPlanesRest {R : Type} (k : Nat) (K : List SV → List Ob → Option R) : ∀ v w, g_spec_DrawPlanesRest k v w K = runF (look (T_spec_DrawPlanesRest k)) tyE A_spec_DrawPlanesRest (nats []) (L_spec_DrawPlanesRest k) (Func.ntmps Try.f17) [.tmp 2] (bodyOf Try.f17) [.sl true 5 (.int .u8)] [] [.sl false 3 (.int .i64)] v w K := by
  rintro ⟨x0, _⟩ _
  kernel_rfl
theorem good_spec_DrawPlanesRest {R : Type} (k : Nat) : Good tyE.P 17 false (F_spec_DrawPlanesRest (R := R) k) :=
  fn_good tyE_ok (tab_ok (hT_spec_DrawPlanesRest k)) A_spec_DrawPlanesRest (nats []) (fn := Try.f17) (c := bodyOf Try.f17) (rs := [.tmp 2]) (by kernel_rfl) (by kernel_rfl) (by kernel_rfl) (by kernel_rfl) (L := L_spec_DrawPlanesRest k) (loops_nil (R := R) (by kernel_rfl)) [.sl true 5 (.int .u8)] [] [.sl false 3 (.int .i64)] (g_spec_DrawPlanesRest k) fun v w K r h => hg_spec_DrawPlanesRest k K v w ▸ h


/-! "loop.example/localglobal/laws.FnRest" -/
noncomputable def f_laws_FnRest {R : Type} (k : Nat) (a0 : List Int) (K : Bool → Option R) : Option R :=
  cond (decide (1048576 < (a0.length : Int))) (K true) (f_spec_DrawPlanesRest k a0 (fun r1 => f_impl_PlanesRest k r1 (fun r2 r3 => f_spec_PlanesRest k r1 (fun r4 r5 => cond (!(r3 == r5)) (cond ((r3 == r5)) (K (decide (r2 = r4))) (K false)) (cond (!decide (r2 = r4)) (cond ((r3 == r5)) (K (decide (r2 = r4))) (K false)) (cond (!(r3)) (cond ((r3 == r5)) (K (decide (r2 = r4))) (K false)) (f_impl_ZeroFind k r1 (fun r6 r7 => cond (r7) (f_impl_FormSame k [1, -1, r2] r1 (fun r8 => K r8)) (K false)))))))))


noncomputable def g_laws_FnRest {R : Type} (k : Nat) (v : HT [.sl true 5 (.int .u8)]) (w : HO []) (K : List SV → List Ob → Option R) : Option R := f_laws_FnRest k v.1 (fun r0 => K [.bool r0] [])
noncomputable def F_laws_FnRest {R : Type} (k : Nat) : CF R := wrapF [.sl true 5 (.int .u8)] [] (g_laws_FnRest k)
noncomputable def A_laws_FnRest : Ann := { pre := nats [], cut := look [], frz := fun i => match look [] i with | some l => l | none => [], fz := nats [], out := outOf [] (some [2]) }
noncomputable def T_laws_FnRest {R : Type} (k : Nat) : List (Nat × (Bool × CF R)) := [(21, (false, (F_impl_FormSame k))), (18, (false, (F_impl_PlanesRest k))), (20, (false, (F_impl_ZeroFind k))), (17, (false, (F_spec_DrawPlanesRest k))), (19, (false, (F_spec_PlanesRest k)))]
noncomputable def L_laws_FnRest {R : Type} (k : Nat) (c : Code) (s : St) (K : Exit → St → Option R) : Option R := none
theorem hT_laws_FnRest {R : Type} (k : Nat) : TabOk tyE.P (T_laws_FnRest (R := R) k) := ⟨(good_impl_FormSame k), (good_impl_PlanesRest k), (good_impl_ZeroFind k), (good_spec_DrawPlanesRest k), (good_spec_PlanesRest k), trivial⟩
theorem hg_laws_FnRest {R : Type} (k : Nat) (K : List SV → List Ob → Option R) : ∀ v w, g_laws_FnRest k v w K = runF (look (T_laws_FnRest k)) tyE A_laws_FnRest (nats []) (L_laws_FnRest k) (Func.ntmps Try.f5) [.tmp 2] (bodyOf Try.f5) [.sl true 5 (.int .u8)] [] [.bool] v w K := by
  rintro ⟨x0, _⟩ _
  kernel_rfl
theorem good_laws_FnRest {R : Type} (k : Nat) : Good tyE.P 5 false (F_laws_FnRest (R := R) k) :=
  fn_good tyE_ok (tab_ok (hT_laws_FnRest k)) A_laws_FnRest (nats []) (fn := Try.f5) (c := bodyOf Try.f5) (rs := [.tmp 2]) (by kernel_rfl) (by kernel_rfl) (by kernel_rfl) (by kernel_rfl) (L := L_laws_FnRest k) (loops_nil (R := R) (by kernel_rfl)) [.sl true 5 (.int .u8)] [] [.bool] (g_laws_FnRest k) fun v w K r h => hg_laws_FnRest k K v w ▸ h


end Go.Proofs.Ytmmadcccjicdcaa.E
