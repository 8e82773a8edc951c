/- The program's functions as plain Lean functions, and that the program comes to what they say. -/
import Derived.Test.YtmmadcccjicdcaaG6
namespace Go.Proofs.Ytmmadcccjicdcaa.E
set_option linter.unusedVariables false
set_option maxRecDepth 100000

/-! "loop.example/localglobal/laws.FnValueThere" -/
noncomputable def f_laws_FnValueThere {R : Type} (k : Nat) (a0 : List Int) (K : Bool → Option R) : Option R :=
  cond (decide (1048576 < (a0.length : Int))) (K true) (f_spec_DrawValueFind k a0 (fun r1 r2 => f_impl_ValueFind k r1 r2 (fun r3 r4 r5 => f_spec_ValueFind k r1 r2 (fun r6 r7 r8 => cond (!(r5 == r8)) (K false) (f_laws_sameInts k r3 r6 (fun r9 => cond (!(r9)) (K false) (cond (!decide (r4 = r7)) (K false) (cond (decide (2 < (r1.length : Int))) (K true) (f_impl_ValueEverywhere k r1 r2 (fun r10 => K (r5 == r10)))))))))))


noncomputable def g_laws_FnValueThere {R : Type} (k : Nat) (v : HT [.sl true 5 (.int .u8)]) (w : HO []) (K : List SV → List Ob → Option R) : Option R := f_laws_FnValueThere k v.1 (fun r0 => K [.bool r0] [])
noncomputable def F_laws_FnValueThere {R : Type} (k : Nat) : CF R := wrapF [.sl true 5 (.int .u8)] [] (g_laws_FnValueThere k)
noncomputable def A_laws_FnValueThere : Ann := { pre := nats [], cut := look [], frz := fun i => match look [] i with | some l => l | none => [], fz := nats [], out := outOf [] (some [2]) }
noncomputable def T_laws_FnValueThere {R : Type} (k : Nat) : List (Nat × (Bool × CF R)) := [(16, (false, (F_impl_ValueEverywhere k))), (23, (false, (F_impl_ValueFind k))), (25, (false, (F_laws_sameInts k))), (22, (false, (F_spec_DrawValueFind k))), (24, (false, (F_spec_ValueFind k)))]
noncomputable def L_laws_FnValueThere {R : Type} (k : Nat) (c : Code) (s : St) (K : Exit → St → Option R) : Option R := none
theorem hT_laws_FnValueThere {R : Type} (k : Nat) : TabOk tyE.P (T_laws_FnValueThere (R := R) k) := ⟨(good_impl_ValueEverywhere k), (good_impl_ValueFind k), (good_laws_sameInts k), (good_spec_DrawValueFind k), (good_spec_ValueFind k), trivial⟩
theorem hg_laws_FnValueThere {R : Type} (k : Nat) (K : List SV → List Ob → Option R) : ∀ v w, g_laws_FnValueThere k v w K = runF (look (T_laws_FnValueThere k)) tyE A_laws_FnValueThere (nats []) (L_laws_FnValueThere k) (Func.ntmps Try.f7) [.tmp 2] (bodyOf Try.f7) [.sl true 5 (.int .u8)] [] [.bool] v w K := by
  rintro ⟨x0, _⟩ _
  kernel_rfl
theorem good_laws_FnValueThere {R : Type} (k : Nat) : Good tyE.P 7 false (F_laws_FnValueThere (R := R) k) :=
  fn_good tyE_ok (tab_ok (hT_laws_FnValueThere k)) A_laws_FnValueThere (nats []) (fn := Try.f7) (c := bodyOf Try.f7) (rs := [.tmp 2]) (by kernel_rfl) (by kernel_rfl) (by kernel_rfl) (by kernel_rfl) (L := L_laws_FnValueThere k) (loops_nil (R := R) (by kernel_rfl)) [.sl true 5 (.int .u8)] [] [.bool] (g_laws_FnValueThere k) fun v w K r h => hg_laws_FnValueThere k K v w ▸ h


end Go.Proofs.Ytmmadcccjicdcaa.E
