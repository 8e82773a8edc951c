/- The program's functions as plain Lean functions, and that the program comes to what they say. -/
import Derived.Test.YtmmadcccjicdcaaG4c
namespace Go.Proofs.Ytmmadcccjicdcaa.E
set_option linter.unusedVariables false
set_option maxRecDepth 100000

/-! "loop.example/localglobal/impl.FormPlaces" -/
noncomputable def f_impl_FormPlaces {R : Type} (k : Nat) (a0 : List Int) (K : List Int → Option R) : Option R :=
  f_impl_FormValid k a0 (fun r1 => cond (!(r1)) (K []) (f_impl_placesOf k a0 (fun r2 => K r2)))


noncomputable def g_impl_FormPlaces {R : Type} (k : Nat) (v : HT [.sl true 3 (.int .i64)]) (w : HO []) (K : List SV → List Ob → Option R) : Option R := f_impl_FormPlaces k v.1 (fun r0 => K [.sl false 3 (.int .i64) r0] [])
noncomputable def F_impl_FormPlaces {R : Type} (k : Nat) : CF R := wrapF [.sl true 3 (.int .i64)] [] (g_impl_FormPlaces k)
noncomputable def A_impl_FormPlaces : Ann := { pre := nats [], cut := look [], frz := fun i => match look [] i with | some l => l | none => [], fz := nats [], out := outOf [] (some [2]) }
noncomputable def T_impl_FormPlaces {R : Type} (k : Nat) : List (Nat × (Bool × CF R)) := [(31, (false, (F_impl_FormValid k))), (57, (false, (F_impl_placesOf k)))]
noncomputable def L_impl_FormPlaces {R : Type} (k : Nat) (c : Code) (s : St) (K : Exit → St → Option R) : Option R := none
theorem hT_impl_FormPlaces {R : Type} (k : Nat) : TabOk tyE.P (T_impl_FormPlaces (R := R) k) := ⟨(good_impl_FormValid k), (good_impl_placesOf k), trivial⟩
theorem hg_impl_FormPlaces {R : Type} (k : Nat) (K : List SV → List Ob → Option R) : ∀ v w, g_impl_FormPlaces k v w K = runF (look (T_impl_FormPlaces k)) tyE A_impl_FormPlaces (nats []) (L_impl_FormPlaces k) (Func.ntmps Try.f71) [.tmp 2] (bodyOf Try.f71) [.sl true 3 (.int .i64)] [] [.sl false 3 (.int .i64)] v w K := by
  rintro ⟨x0, _⟩ _
  kernel_rfl
theorem good_impl_FormPlaces {R : Type} (k : Nat) : Good tyE.P 71 false (F_impl_FormPlaces (R := R) k) :=
  fn_good tyE_ok (tab_ok (hT_impl_FormPlaces k)) A_impl_FormPlaces (nats []) (fn := Try.f71) (c := bodyOf Try.f71) (rs := [.tmp 2]) (by kernel_rfl) (by kernel_rfl) (by kernel_rfl) (by kernel_rfl) (L := L_impl_FormPlaces k) (loops_nil (R := R) (by kernel_rfl)) [.sl true 3 (.int .i64)] [] [.sl false 3 (.int .i64)] (g_impl_FormPlaces k) fun v w K r h => hg_impl_FormPlaces k K v w ▸ h


/-! "loop.example/localglobal/impl.FormBad" -/
noncomputable def l_impl_FormBad_3 {R : Type} (k : Nat) : Nat → List Int → List Int → Int → Int → List Int → (List Int → Option R) → Option R
  | 0, _, _, _, _, _, _ => none
  | n + 1, v2, v3, v4, v5, v6, K0 => cond (decide (v5 < v4)) (cond (decide (0 ≤ v5) && decide (v5 < ((v3).length : Int))) (f_impl_vanishes k v2 (List.getD v3 (Int.toNat v5) 0) (fun r7 => cond (!(r7)) (cond (Nat.ble (v6.length + 1) LIM) (l_impl_FormBad_3 k n v2 v3 v4 (IntKind.wrap .i64 (v5 + 1)) (v6 ++ [(List.getD v3 (Int.toNat v5) 0)]) K0) none) (l_impl_FormBad_3 k n v2 v3 v4 (IntKind.wrap .i64 (v5 + 1)) v6 K0))) none) (K0 v6)

noncomputable def f_impl_FormBad {R : Type} (k : Nat) (a0 : List Int) (K : List Int → Option R) : Option R :=
  f_impl_FormPlaces k a0 (fun r1 => l_impl_FormBad_3 k k a0 r1 (r1.length : Int) 0 [] (fun y8 => K y8))


noncomputable def g_impl_FormBad {R : Type} (k : Nat) (v : HT [.sl true 3 (.int .i64)]) (w : HO []) (K : List SV → List Ob → Option R) : Option R := f_impl_FormBad k v.1 (fun r0 => K [.sl false 3 (.int .i64) r0] [])
noncomputable def F_impl_FormBad {R : Type} (k : Nat) : CF R := wrapF [.sl true 3 (.int .i64)] [] (g_impl_FormBad k)
noncomputable def A_impl_FormBad : Ann := { pre := nats [], cut := look [(3, [0, 3, 8, 9, 10])], frz := fun i => match look [] i with | some l => l | none => [], fz := nats [], out := outOf [(0, [3])] (some [2]) }
noncomputable def T_impl_FormBad {R : Type} (k : Nat) : List (Nat × (Bool × CF R)) := [(71, (false, (F_impl_FormPlaces k))), (72, (false, (F_impl_vanishes k)))]
noncomputable abbrev h_impl_FormBad_3 : Shape := ⟨[(0, .sl true 3 (.int .i64)), (3, .slo 1006), (8, .sl false 3 (.int .i64)), (9, .int .i64), (10, .int .i64)], [(1006, .arr 3 (.int .i64))]⟩
noncomputable def lf_impl_FormBad_3 {R : Type} (k : Nat) (n : Nat) (v : h_impl_FormBad_3.T) (K : Exit → St → Option R) : Option R := l_impl_FormBad_3 k n v.1.1 v.1.2.2.1 v.1.2.2.2.1 v.1.2.2.2.2.1 v.2.1 (fun y0 => K (.exit 0) ⟨[(3, .s (.slo 1006))], [(1006, .arr 3 (.int .i64) y0)]⟩)
noncomputable def L_impl_FormBad {R : Type} (k : Nat) (c : Code) (s : St) (K : Exit → St → Option R) : Option R := cond (Nat.beq (firstReg c) 3) ((h_impl_FormBad_3.dec (cutAt A_impl_FormBad c s)).bind fun v => lf_impl_FormBad_3 k k v K) (none)
theorem hT_impl_FormBad {R : Type} (k : Nat) : TabOk tyE.P (T_impl_FormBad (R := R) k) := ⟨(good_impl_FormPlaces k), (good_impl_vanishes k), trivial⟩
noncomputable def b_impl_FormBad_3 : Code := nthLoop (bodyOf Try.f47) 0
theorem hs_impl_FormBad_3 {R : Type} (k : Nat) (n : Nat) (K : Exit → St → Option R) : ∀ v, lf_impl_FormBad_3 k (n + 1) v K = evk (look (T_impl_FormBad k)) tyE A_impl_FormBad (Func.ntmps Try.f47) (drawn (look (T_impl_FormBad k)) tyE A_impl_FormBad (nats []) (Func.ntmps Try.f47)) (L_impl_FormBad k) b_impl_FormBad_3 (h_impl_FormBad_3.enc v) (loopK A_impl_FormBad b_impl_FormBad_3 h_impl_FormBad_3.dec (lf_impl_FormBad_3 k) n K) := by
  rintro ⟨⟨x0, _, x1, x2, x3, _⟩, ⟨x4, _⟩⟩
  kernel_rfl
theorem lo_impl_FormBad_3 {R : Type} (k : Nat) : LoopOk tyE.P (Func.ntmps Try.f47) (L_impl_FormBad (R := R) k) b_impl_FormBad_3 :=
  fn_loop tyE_ok (tab_ok (hT_impl_FormBad k)) A_impl_FormBad (nats []) (loops_nil (R := R) (by kernel_rfl)) h_impl_FormBad_3 (lf_impl_FormBad_3 k) k (fun s K => by kernel_rfl) (fun v K => by kernel_rfl) fun n v K r h => hs_impl_FormBad_3 k n K v ▸ h
theorem hg_impl_FormBad {R : Type} (k : Nat) (K : List SV → List Ob → Option R) : ∀ v w, g_impl_FormBad k v w K = runF (look (T_impl_FormBad k)) tyE A_impl_FormBad (nats []) (L_impl_FormBad k) (Func.ntmps Try.f47) [.tmp 2] (bodyOf Try.f47) [.sl true 3 (.int .i64)] [] [.sl false 3 (.int .i64)] v w K := by
  rintro ⟨x0, _⟩ _
  kernel_rfl
theorem good_impl_FormBad {R : Type} (k : Nat) : Good tyE.P 47 false (F_impl_FormBad (R := R) k) :=
  fn_good tyE_ok (tab_ok (hT_impl_FormBad k)) A_impl_FormBad (nats []) (fn := Try.f47) (c := bodyOf Try.f47) (rs := [.tmp 2]) (by kernel_rfl) (by kernel_rfl) (by kernel_rfl) (by kernel_rfl) (L := L_impl_FormBad k) (loops_one (R := R) (by kernel_rfl) (lo_impl_FormBad_3 k)) [.sl true 3 (.int .i64)] [] [.sl false 3 (.int .i64)] (g_impl_FormBad k) fun v w K r h => hg_impl_FormBad k K v w ▸ h


/-! "loop.example/localglobal/impl.coreOf" -/
noncomputable def l_impl_coreOf_5 {R : Type} (k : Nat) : Nat → Int → Int → Int → List Int → Int → Int → (Int → Int → List Int → Int → Int → Option R) → Option R
  | 0, _, _, _, _, _, _, _ => none
  | n + 1, v7, v8, v9, v10, v11, v12, K0 => cond (!decide ((IntKind.wrap .i64 (v9 * v9)) = 0)) (cond (decide ((Int.tmod v7 (IntKind.wrap .i64 (v9 * v9))) = 0)) (cond (!decide ((IntKind.wrap .i64 (v9 * v9)) = 0)) (l_impl_coreOf_5 k n (IntKind.wrap .i64 (Int.tdiv v7 (IntKind.wrap .i64 (v9 * v9)))) (IntKind.wrap .i64 (v8 * v9)) v9 v10 v11 v12 K0) none) (K0 v7 v8 v10 v11 v12)) none

noncomputable def l_impl_coreOf_3 {R : Type} (k : Nat) : Nat → Int → Int → List Int → Int → Int → (Int → Int → Option R) → Option R
  | 0, _, _, _, _, _, _ => none
  | n + 1, v2, v3, v4, v5, v6, K0 => cond (decide (v6 < v5)) (cond (decide (0 ≤ v6) && decide (v6 < ((v4).length : Int))) (l_impl_coreOf_5 k k v2 v3 (List.getD v4 (Int.toNat v6) 0) v4 v5 v6 (fun y13 y14 y15 y16 y17 => l_impl_coreOf_3 k n y13 y14 y15 y16 (IntKind.wrap .i64 (y17 + 1)) K0)) none) (K0 v2 v3)

noncomputable def f_impl_coreOf {R : Type} (k : Nat) (a0 : Int) (K : Int → Int → Option R) : Option R :=
  f_impl_primesOf k a0 (fun r1 => l_impl_coreOf_3 k k a0 1 r1 (r1.length : Int) 0 (fun y18 y19 => K y18 y19))


noncomputable def g_impl_coreOf {R : Type} (k : Nat) (v : HT [.int .i64]) (w : HO []) (K : List SV → List Ob → Option R) : Option R := f_impl_coreOf k v.1 (fun r0 r1 => K [.int .i64 r0, .int .i64 r1] [])
noncomputable def F_impl_coreOf {R : Type} (k : Nat) : CF R := wrapF [.int .i64] [] (g_impl_coreOf k)
noncomputable def A_impl_coreOf : Ann := { pre := nats [], cut := look [(3, [0, 4, 8, 9, 10]), (5, [0, 4, 6, 8, 9, 10])], frz := fun i => match look [] i with | some l => l | none => [], fz := nats [], out := outOf [(0, [0, 4]), (2, [0, 4, 8, 9, 10])] (some [2, 3]) }
noncomputable def T_impl_coreOf {R : Type} (k : Nat) : List (Nat × (Bool × CF R)) := [(78, (false, (F_impl_primesOf k)))]
noncomputable abbrev h_impl_coreOf_3 : Shape := ⟨[(0, .int .i64), (4, .int .i64), (8, .sl false 3 (.int .i64)), (9, .int .i64), (10, .int .i64)], []⟩
noncomputable def lf_impl_coreOf_3 {R : Type} (k : Nat) (n : Nat) (v : h_impl_coreOf_3.T) (K : Exit → St → Option R) : Option R := l_impl_coreOf_3 k n v.1.1 v.1.2.1 v.1.2.2.1 v.1.2.2.2.1 v.1.2.2.2.2.1 (fun y0 y1 => K (.exit 0) ⟨[(0, .s (.int .i64 y0)), (4, .s (.int .i64 y1))], []⟩)
noncomputable abbrev h_impl_coreOf_5 : Shape := ⟨[(0, .int .i64), (4, .int .i64), (6, .int .i64), (8, .sl false 3 (.int .i64)), (9, .int .i64), (10, .int .i64)], []⟩
noncomputable def lf_impl_coreOf_5 {R : Type} (k : Nat) (n : Nat) (v : h_impl_coreOf_5.T) (K : Exit → St → Option R) : Option R := l_impl_coreOf_5 k n v.1.1 v.1.2.1 v.1.2.2.1 v.1.2.2.2.1 v.1.2.2.2.2.1 v.1.2.2.2.2.2.1 (fun y0 y1 y2 y3 y4 => K (.exit 2) ⟨[(0, .s (.int .i64 y0)), (4, .s (.int .i64 y1)), (8, .s (.sl false 3 (.int .i64) y2)), (9, .s (.int .i64 y3)), (10, .s (.int .i64 y4))], []⟩)
noncomputable def L_impl_coreOf {R : Type} (k : Nat) (c : Code) (s : St) (K : Exit → St → Option R) : Option R := cond (Nat.beq (firstReg c) 5) ((h_impl_coreOf_5.dec (cutAt A_impl_coreOf c s)).bind fun v => lf_impl_coreOf_5 k k v K) (cond (Nat.beq (firstReg c) 3) ((h_impl_coreOf_3.dec (cutAt A_impl_coreOf c s)).bind fun v => lf_impl_coreOf_3 k k v K) (none))
theorem hT_impl_coreOf {R : Type} (k : Nat) : TabOk tyE.P (T_impl_coreOf (R := R) k) := ⟨(good_impl_primesOf k), trivial⟩
noncomputable def b_impl_coreOf_3 : Code := nthLoop (bodyOf Try.f53) 0
noncomputable def b_impl_coreOf_5 : Code := nthLoop (b_impl_coreOf_3) 0
theorem hs_impl_coreOf_5 {R : Type} (k : Nat) (n : Nat) (K : Exit → St → Option R) : ∀ v, lf_impl_coreOf_5 k (n + 1) v K = evk (look (T_impl_coreOf k)) tyE A_impl_coreOf (Func.ntmps Try.f53) (drawn (look (T_impl_coreOf k)) tyE A_impl_coreOf (nats []) (Func.ntmps Try.f53)) (L_impl_coreOf k) b_impl_coreOf_5 (h_impl_coreOf_5.enc v) (loopK A_impl_coreOf b_impl_coreOf_5 h_impl_coreOf_5.dec (lf_impl_coreOf_5 k) n K) := by
  rintro ⟨⟨x0, x1, x2, x3, x4, x5, _⟩, _⟩
  kernel_rfl
theorem lo_impl_coreOf_5 {R : Type} (k : Nat) : LoopOk tyE.P (Func.ntmps Try.f53) (L_impl_coreOf (R := R) k) b_impl_coreOf_5 :=
  fn_loop tyE_ok (tab_ok (hT_impl_coreOf k)) A_impl_coreOf (nats []) (loops_nil (R := R) (by kernel_rfl)) h_impl_coreOf_5 (lf_impl_coreOf_5 k) k (fun s K => by kernel_rfl) (fun v K => by kernel_rfl) fun n v K r h => hs_impl_coreOf_5 k n K v ▸ h
theorem hs_impl_coreOf_3 {R : Type} (k : Nat) (n : Nat) (K : Exit → St → Option R) : ∀ v, lf_impl_coreOf_3 k (n + 1) v K = evk (look (T_impl_coreOf k)) tyE A_impl_coreOf (Func.ntmps Try.f53) (drawn (look (T_impl_coreOf k)) tyE A_impl_coreOf (nats []) (Func.ntmps Try.f53)) (L_impl_coreOf k) b_impl_coreOf_3 (h_impl_coreOf_3.enc v) (loopK A_impl_coreOf b_impl_coreOf_3 h_impl_coreOf_3.dec (lf_impl_coreOf_3 k) n K) := by
  rintro ⟨⟨x0, x1, x2, x3, x4, _⟩, _⟩
  kernel_rfl
theorem lo_impl_coreOf_3 {R : Type} (k : Nat) : LoopOk tyE.P (Func.ntmps Try.f53) (L_impl_coreOf (R := R) k) b_impl_coreOf_3 :=
  fn_loop tyE_ok (tab_ok (hT_impl_coreOf k)) A_impl_coreOf (nats []) (loops_one (R := R) (by kernel_rfl) (lo_impl_coreOf_5 k)) h_impl_coreOf_3 (lf_impl_coreOf_3 k) k (fun s K => by kernel_rfl) (fun v K => by kernel_rfl) fun n v K r h => hs_impl_coreOf_3 k n K v ▸ h
theorem hg_impl_coreOf {R : Type} (k : Nat) (K : List SV → List Ob → Option R) : ∀ v w, g_impl_coreOf k v w K = runF (look (T_impl_coreOf k)) tyE A_impl_coreOf (nats []) (L_impl_coreOf k) (Func.ntmps Try.f53) [.tmp 2, .tmp 3] (bodyOf Try.f53) [.int .i64] [] [.int .i64, .int .i64] v w K := by
  rintro ⟨x0, _⟩ _
  kernel_rfl
theorem good_impl_coreOf {R : Type} (k : Nat) : Good tyE.P 53 false (F_impl_coreOf (R := R) k) :=
  fn_good tyE_ok (tab_ok (hT_impl_coreOf k)) A_impl_coreOf (nats []) (fn := Try.f53) (c := bodyOf Try.f53) (rs := [.tmp 2, .tmp 3]) (by kernel_rfl) (by kernel_rfl) (by kernel_rfl) (by kernel_rfl) (L := L_impl_coreOf k) (loops_one (R := R) (by kernel_rfl) (lo_impl_coreOf_3 k)) [.int .i64] [] [.int .i64, .int .i64] (g_impl_coreOf k) fun v w K r h => hg_impl_coreOf k K v w ▸ h


/-! "loop.example/localglobal/impl.FormDisc" -/
noncomputable def f_impl_FormDisc {R : Type} (k : Nat) (a0 : List Int) (K : Int → Option R) : Option R :=
  f_impl_FormValid k a0 (fun r1 => cond (!(r1)) (K 0) (f_impl_product k a0 (fun r2 => f_impl_coreOf k r2 (fun r3 r4 => K r3))))


noncomputable def g_impl_FormDisc {R : Type} (k : Nat) (v : HT [.sl true 3 (.int .i64)]) (w : HO []) (K : List SV → List Ob → Option R) : Option R := f_impl_FormDisc k v.1 (fun r0 => K [.int .i64 r0] [])
noncomputable def F_impl_FormDisc {R : Type} (k : Nat) : CF R := wrapF [.sl true 3 (.int .i64)] [] (g_impl_FormDisc k)
noncomputable def A_impl_FormDisc : Ann := { pre := nats [], cut := look [], frz := fun i => match look [] i with | some l => l | none => [], fz := nats [], out := outOf [] (some [2]) }
noncomputable def T_impl_FormDisc {R : Type} (k : Nat) : List (Nat × (Bool × CF R)) := [(31, (false, (F_impl_FormValid k))), (53, (false, (F_impl_coreOf k))), (73, (false, (F_impl_product k)))]
noncomputable def L_impl_FormDisc {R : Type} (k : Nat) (c : Code) (s : St) (K : Exit → St → Option R) : Option R := none
theorem hT_impl_FormDisc {R : Type} (k : Nat) : TabOk tyE.P (T_impl_FormDisc (R := R) k) := ⟨(good_impl_FormValid k), (good_impl_coreOf k), (good_impl_product k), trivial⟩
theorem hg_impl_FormDisc {R : Type} (k : Nat) (K : List SV → List Ob → Option R) : ∀ v w, g_impl_FormDisc k v w K = runF (look (T_impl_FormDisc k)) tyE A_impl_FormDisc (nats []) (L_impl_FormDisc k) (Func.ntmps Try.f49) [.tmp 2] (bodyOf Try.f49) [.sl true 3 (.int .i64)] [] [.int .i64] v w K := by
  rintro ⟨x0, _⟩ _
  kernel_rfl
theorem good_impl_FormDisc {R : Type} (k : Nat) : Good tyE.P 49 false (F_impl_FormDisc (R := R) k) :=
  fn_good tyE_ok (tab_ok (hT_impl_FormDisc k)) A_impl_FormDisc (nats []) (fn := Try.f49) (c := bodyOf Try.f49) (rs := [.tmp 2]) (by kernel_rfl) (by kernel_rfl) (by kernel_rfl) (by kernel_rfl) (L := L_impl_FormDisc k) (loops_nil (R := R) (by kernel_rfl)) [.sl true 3 (.int .i64)] [] [.int .i64] (g_impl_FormDisc k) fun v w K r h => hg_impl_FormDisc k K v w ▸ h


/-! "loop.example/localglobal/impl.PlanesRest" -/
noncomputable def f_impl_PlanesRest {R : Type} (k : Nat) (a0 : List Int) (K : Int → Bool → Option R) : Option R :=
  cond (!decide ((a0.length : Int) = 3)) (K 0 false) (f_impl_FormValid k a0 (fun r1 => cond (!(r1)) (K 0 false) (f_impl_FormBad k a0 (fun r2 => cond (decide (0 < (r2.length : Int))) (K 0 false) (f_impl_FormDisc k a0 (fun r3 => f_impl_size k r3 (fun r4 => cond (decide (30 < r4)) (K 0 false) (f_impl_FormDisc k a0 (fun r5 => K (IntKind.wrap .i64 (0 - r5)) true)))))))))


noncomputable def g_impl_PlanesRest {R : Type} (k : Nat) (v : HT [.sl true 3 (.int .i64)]) (w : HO []) (K : List SV → List Ob → Option R) : Option R := f_impl_PlanesRest k v.1 (fun r0 r1 => K [.int .i64 r0, .bool r1] [])
noncomputable def F_impl_PlanesRest {R : Type} (k : Nat) : CF R := wrapF [.sl true 3 (.int .i64)] [] (g_impl_PlanesRest k)
noncomputable def A_impl_PlanesRest : Ann := { pre := nats [], cut := look [], frz := fun i => match look [] i with | some l => l | none => [], fz := nats [], out := outOf [] (some [2, 3]) }
noncomputable def T_impl_PlanesRest {R : Type} (k : Nat) : List (Nat × (Bool × CF R)) := [(47, (false, (F_impl_FormBad k))), (49, (false, (F_impl_FormDisc k))), (31, (false, (F_impl_FormValid k))), (48, (false, (F_impl_size k)))]
noncomputable def L_impl_PlanesRest {R : Type} (k : Nat) (c : Code) (s : St) (K : Exit → St → Option R) : Option R := none
theorem hT_impl_PlanesRest {R : Type} (k : Nat) : TabOk tyE.P (T_impl_PlanesRest (R := R) k) := ⟨(good_impl_FormBad k), (good_impl_FormDisc k), (good_impl_FormValid k), (good_impl_size k), trivial⟩
theorem hg_impl_PlanesRest {R : Type} (k : Nat) (K : List SV → List Ob → Option R) : ∀ v w, g_impl_PlanesRest k v w K = runF (look (T_impl_PlanesRest k)) tyE A_impl_PlanesRest (nats []) (L_impl_PlanesRest k) (Func.ntmps Try.f18) [.tmp 2, .tmp 3] (bodyOf Try.f18) [.sl true 3 (.int .i64)] [] [.int .i64, .bool] v w K := by
  rintro ⟨x0, _⟩ _
  kernel_rfl
theorem good_impl_PlanesRest {R : Type} (k : Nat) : Good tyE.P 18 false (F_impl_PlanesRest (R := R) k) :=
  fn_good tyE_ok (tab_ok (hT_impl_PlanesRest k)) A_impl_PlanesRest (nats []) (fn := Try.f18) (c := bodyOf Try.f18) (rs := [.tmp 2, .tmp 3]) (by kernel_rfl) (by kernel_rfl) (by kernel_rfl) (by kernel_rfl) (L := L_impl_PlanesRest k) (loops_nil (R := R) (by kernel_rfl)) [.sl true 3 (.int .i64)] [] [.int .i64, .bool] (g_impl_PlanesRest k) fun v w K r h => hg_impl_PlanesRest k K v w ▸ h


/-! "loop.example/localglobal/spec.l4Product" -/
noncomputable def l_spec_l4Product_3 {R : Type} (k : Nat) : Nat → List Int → Int → Int → (Int → Option R) → Option R
  | 0, _, _, _, _ => none
  | n + 1, v1, v2, v3, K0 => cond (decide (v3 < (v1.length : Int))) (cond (decide (0 ≤ v3) && decide (v3 < ((v1).length : Int))) (l_spec_l4Product_3 k n v1 (IntKind.wrap .i64 (v2 * (List.getD v1 (Int.toNat v3) 0))) (IntKind.wrap .i64 (v3 + 1)) K0) none) (K0 v2)

noncomputable def f_spec_l4Product {R : Type} (k : Nat) (a0 : List Int) (K : Int → Option R) : Option R :=
  l_spec_l4Product_3 k k a0 1 0 (fun y4 => K y4)


noncomputable def g_spec_l4Product {R : Type} (k : Nat) (v : HT [.sl true 3 (.int .i64)]) (w : HO []) (K : List SV → List Ob → Option R) : Option R := f_spec_l4Product k v.1 (fun r0 => K [.int .i64 r0] [])
noncomputable def F_spec_l4Product {R : Type} (k : Nat) : CF R := wrapF [.sl true 3 (.int .i64)] [] (g_spec_l4Product k)
noncomputable def A_spec_l4Product : Ann := { pre := nats [], cut := look [(3, [0, 3, 4])], frz := fun i => match look [] i with | some l => l | none => [], fz := nats [], out := outOf [(0, [3])] (some [2]) }
noncomputable def T_spec_l4Product {R : Type} (k : Nat) : List (Nat × (Bool × CF R)) := []
noncomputable abbrev h_spec_l4Product_3 : Shape := ⟨[(0, .sl true 3 (.int .i64)), (3, .int .i64), (4, .int .i64)], []⟩
noncomputable def lf_spec_l4Product_3 {R : Type} (k : Nat) (n : Nat) (v : h_spec_l4Product_3.T) (K : Exit → St → Option R) : Option R := l_spec_l4Product_3 k n v.1.1 v.1.2.1 v.1.2.2.1 (fun y0 => K (.exit 0) ⟨[(3, .s (.int .i64 y0))], []⟩)
noncomputable def L_spec_l4Product {R : Type} (k : Nat) (c : Code) (s : St) (K : Exit → St → Option R) : Option R := cond (Nat.beq (firstReg c) 3) ((h_spec_l4Product_3.dec (cutAt A_spec_l4Product c s)).bind fun v => lf_spec_l4Product_3 k k v K) (none)
theorem hT_spec_l4Product {R : Type} (k : Nat) : TabOk tyE.P (T_spec_l4Product (R := R) k) := trivial
noncomputable def b_spec_l4Product_3 : Code := nthLoop (bodyOf Try.f77) 0
theorem hs_spec_l4Product_3 {R : Type} (k : Nat) (n : Nat) (K : Exit → St → Option R) : ∀ v, lf_spec_l4Product_3 k (n + 1) v K = evk (look (T_spec_l4Product k)) tyE A_spec_l4Product (Func.ntmps Try.f77) (drawn (look (T_spec_l4Product k)) tyE A_spec_l4Product (nats []) (Func.ntmps Try.f77)) (L_spec_l4Product k) b_spec_l4Product_3 (h_spec_l4Product_3.enc v) (loopK A_spec_l4Product b_spec_l4Product_3 h_spec_l4Product_3.dec (lf_spec_l4Product_3 k) n K) := by
  rintro ⟨⟨x0, x1, x2, _⟩, _⟩
  kernel_rfl
theorem lo_spec_l4Product_3 {R : Type} (k : Nat) : LoopOk tyE.P (Func.ntmps Try.f77) (L_spec_l4Product (R := R) k) b_spec_l4Product_3 :=
  fn_loop tyE_ok (tab_ok (hT_spec_l4Product k)) A_spec_l4Product (nats []) (loops_nil (R := R) (by kernel_rfl)) h_spec_l4Product_3 (lf_spec_l4Product_3 k) k (fun s K => by kernel_rfl) (fun v K => by kernel_rfl) fun n v K r h => hs_spec_l4Product_3 k n K v ▸ h
theorem hg_spec_l4Product {R : Type} (k : Nat) (K : List SV → List Ob → Option R) : ∀ v w, g_spec_l4Product k v w K = runF (look (T_spec_l4Product k)) tyE A_spec_l4Product (nats []) (L_spec_l4Product k) (Func.ntmps Try.f77) [.tmp 2] (bodyOf Try.f77) [.sl true 3 (.int .i64)] [] [.int .i64] v w K := by
  rintro ⟨x0, _⟩ _
  kernel_rfl
theorem good_spec_l4Product {R : Type} (k : Nat) : Good tyE.P 77 false (F_spec_l4Product (R := R) k) :=
  fn_good tyE_ok (tab_ok (hT_spec_l4Product k)) A_spec_l4Product (nats []) (fn := Try.f77) (c := bodyOf Try.f77) (rs := [.tmp 2]) (by kernel_rfl) (by kernel_rfl) (by kernel_rfl) (by kernel_rfl) (L := L_spec_l4Product k) (loops_one (R := R) (by kernel_rfl) (lo_spec_l4Product_3 k)) [.sl true 3 (.int .i64)] [] [.int .i64] (g_spec_l4Product k) fun v w K r h => hg_spec_l4Product k K v w ▸ h


/-! "loop.example/localglobal/spec.l1Size" -/
noncomputable def f_spec_l1Size {R : Type} (k : Nat) (a0 : Int) (K : Int → Option R) : Option R :=
  K (cond (decide (a0 < (IntKind.wrap .i64 (0 - a0)))) (IntKind.wrap .i64 (0 - a0)) a0)


noncomputable def g_spec_l1Size {R : Type} (k : Nat) (v : HT [.int .i64]) (w : HO []) (K : List SV → List Ob → Option R) : Option R := f_spec_l1Size k v.1 (fun r0 => K [.int .i64 r0] [])
noncomputable def F_spec_l1Size {R : Type} (k : Nat) : CF R := wrapF [.int .i64] [] (g_spec_l1Size k)
noncomputable def A_spec_l1Size : Ann := { pre := nats [], cut := look [], frz := fun i => match look [] i with | some l => l | none => [], fz := nats [], out := outOf [] (some [2]) }
noncomputable def T_spec_l1Size {R : Type} (k : Nat) : List (Nat × (Bool × CF R)) := []
noncomputable def L_spec_l1Size {R : Type} (k : Nat) (c : Code) (s : St) (K : Exit → St → Option R) : Option R := none
theorem hT_spec_l1Size {R : Type} (k : Nat) : TabOk tyE.P (T_spec_l1Size (R := R) k) := trivial
theorem hg_spec_l1Size {R : Type} (k : Nat) (K : List SV → List Ob → Option R) : ∀ v w, g_spec_l1Size k v w K = runF (look (T_spec_l1Size k)) tyE A_spec_l1Size (nats []) (L_spec_l1Size k) (Func.ntmps Try.f51) [.tmp 2] (bodyOf Try.f51) [.int .i64] [] [.int .i64] v w K := by
  rintro ⟨x0, _⟩ _
  kernel_rfl
theorem good_spec_l1Size {R : Type} (k : Nat) : Good tyE.P 51 false (F_spec_l1Size (R := R) k) :=
  fn_good tyE_ok (tab_ok (hT_spec_l1Size k)) A_spec_l1Size (nats []) (fn := Try.f51) (c := bodyOf Try.f51) (rs := [.tmp 2]) (by kernel_rfl) (by kernel_rfl) (by kernel_rfl) (by kernel_rfl) (L := L_spec_l1Size k) (loops_nil (R := R) (by kernel_rfl)) [.int .i64] [] [.int .i64] (g_spec_l1Size k) fun v w K r h => hg_spec_l1Size k K v w ▸ h


/-! "loop.example/localglobal/spec.l1Primes" -/
noncomputable def l_spec_l1Primes_8 {R : Type} (k : Nat) : Nat → Int → Int → List Int → (Int → Int → List Int → Option R) → Option R
  | 0, _, _, _, _ => none
  | n + 1, v5, v6, v7, K0 => cond (!decide (v6 = 0)) (cond (decide ((Int.tmod v5 v6) = 0)) (cond (!decide (v6 = 0)) (l_spec_l1Primes_8 k n (IntKind.wrap .i64 (Int.tdiv v5 v6)) v6 v7 K0) none) (K0 v5 v6 v7)) none

noncomputable def l_spec_l1Primes_4 {R : Type} (k : Nat) : Nat → Int → Int → List Int → (Int → List Int → Option R) → Option R
  | 0, _, _, _, _ => none
  | n + 1, v2, v3, v4, K0 => cond (decide ((IntKind.wrap .i64 (v3 * v3)) ≤ v2)) (cond (!decide (v3 = 0)) (cond (decide ((Int.tmod v2 v3) = 0)) (cond (Nat.ble (v4.length + 1) LIM) (l_spec_l1Primes_8 k k v2 v3 (v4 ++ [v3]) (fun y8 y9 y10 => l_spec_l1Primes_4 k n y8 (IntKind.wrap .i64 (y9 + 1)) y10 K0)) none) (l_spec_l1Primes_8 k k v2 v3 v4 (fun y11 y12 y13 => l_spec_l1Primes_4 k n y11 (IntKind.wrap .i64 (y12 + 1)) y13 K0))) none) (K0 v2 v4)

noncomputable def f_spec_l1Primes {R : Type} (k : Nat) (a0 : Int) (K : List Int → Option R) : Option R :=
  f_spec_l1Size k a0 (fun r1 => l_spec_l1Primes_4 k k r1 2 [] (fun y14 y15 => cond (decide (1 < y14)) (cond (Nat.ble (y15.length + 1) LIM) (K (y15 ++ [y14])) none) (K y15)))


noncomputable def g_spec_l1Primes {R : Type} (k : Nat) (v : HT [.int .i64]) (w : HO []) (K : List SV → List Ob → Option R) : Option R := f_spec_l1Primes k v.1 (fun r0 => K [.sl false 3 (.int .i64) r0] [])
noncomputable def F_spec_l1Primes {R : Type} (k : Nat) : CF R := wrapF [.int .i64] [] (g_spec_l1Primes k)
noncomputable def A_spec_l1Primes : Ann := { pre := nats [], cut := look [(4, [0, 3, 4]), (8, [0, 3, 4])], frz := fun i => match look [] i with | some l => l | none => [], fz := nats [], out := outOf [(0, [0, 3]), (2, [0, 3, 4])] (some [2]) }
noncomputable def T_spec_l1Primes {R : Type} (k : Nat) : List (Nat × (Bool × CF R)) := [(51, (false, (F_spec_l1Size k)))]
noncomputable abbrev h_spec_l1Primes_4 : Shape := ⟨[(0, .int .i64), (3, .slo 1005), (4, .int .i64)], [(1005, .arr 3 (.int .i64))]⟩
noncomputable def lf_spec_l1Primes_4 {R : Type} (k : Nat) (n : Nat) (v : h_spec_l1Primes_4.T) (K : Exit → St → Option R) : Option R := l_spec_l1Primes_4 k n v.1.1 v.1.2.2.1 v.2.1 (fun y0 y1 => K (.exit 0) ⟨[(0, .s (.int .i64 y0)), (3, .s (.slo 1005))], [(1005, .arr 3 (.int .i64) y1)]⟩)
noncomputable abbrev h_spec_l1Primes_8 : Shape := ⟨[(0, .int .i64), (3, .slo 1005), (4, .int .i64)], [(1005, .arr 3 (.int .i64))]⟩
noncomputable def lf_spec_l1Primes_8 {R : Type} (k : Nat) (n : Nat) (v : h_spec_l1Primes_8.T) (K : Exit → St → Option R) : Option R := l_spec_l1Primes_8 k n v.1.1 v.1.2.2.1 v.2.1 (fun y0 y1 y2 => K (.exit 2) ⟨[(0, .s (.int .i64 y0)), (3, .s (.slo 1005)), (4, .s (.int .i64 y1))], [(1005, .arr 3 (.int .i64) y2)]⟩)
noncomputable def L_spec_l1Primes {R : Type} (k : Nat) (c : Code) (s : St) (K : Exit → St → Option R) : Option R := cond (Nat.beq (firstReg c) 8) ((h_spec_l1Primes_8.dec (cutAt A_spec_l1Primes c s)).bind fun v => lf_spec_l1Primes_8 k k v K) (cond (Nat.beq (firstReg c) 4) ((h_spec_l1Primes_4.dec (cutAt A_spec_l1Primes c s)).bind fun v => lf_spec_l1Primes_4 k k v K) (none))
theorem hT_spec_l1Primes {R : Type} (k : Nat) : TabOk tyE.P (T_spec_l1Primes (R := R) k) := ⟨(good_spec_l1Size k), trivial⟩
noncomputable def b_spec_l1Primes_4 : Code := nthLoop (bodyOf Try.f104) 0
noncomputable def b_spec_l1Primes_8 : Code := nthLoop (b_spec_l1Primes_4) 0
theorem hs_spec_l1Primes_8 {R : Type} (k : Nat) (n : Nat) (K : Exit → St → Option R) : ∀ v, lf_spec_l1Primes_8 k (n + 1) v K = evk (look (T_spec_l1Primes k)) tyE A_spec_l1Primes (Func.ntmps Try.f104) (drawn (look (T_spec_l1Primes k)) tyE A_spec_l1Primes (nats []) (Func.ntmps Try.f104)) (L_spec_l1Primes k) b_spec_l1Primes_8 (h_spec_l1Primes_8.enc v) (loopK A_spec_l1Primes b_spec_l1Primes_8 h_spec_l1Primes_8.dec (lf_spec_l1Primes_8 k) n K) := by
  rintro ⟨⟨x0, _, x1, _⟩, ⟨x2, _⟩⟩
  kernel_rfl
theorem lo_spec_l1Primes_8 {R : Type} (k : Nat) : LoopOk tyE.P (Func.ntmps Try.f104) (L_spec_l1Primes (R := R) k) b_spec_l1Primes_8 :=
  fn_loop tyE_ok (tab_ok (hT_spec_l1Primes k)) A_spec_l1Primes (nats []) (loops_nil (R := R) (by kernel_rfl)) h_spec_l1Primes_8 (lf_spec_l1Primes_8 k) k (fun s K => by kernel_rfl) (fun v K => by kernel_rfl) fun n v K r h => hs_spec_l1Primes_8 k n K v ▸ h
theorem hs_spec_l1Primes_4 {R : Type} (k : Nat) (n : Nat) (K : Exit → St → Option R) : ∀ v, lf_spec_l1Primes_4 k (n + 1) v K = evk (look (T_spec_l1Primes k)) tyE A_spec_l1Primes (Func.ntmps Try.f104) (drawn (look (T_spec_l1Primes k)) tyE A_spec_l1Primes (nats []) (Func.ntmps Try.f104)) (L_spec_l1Primes k) b_spec_l1Primes_4 (h_spec_l1Primes_4.enc v) (loopK A_spec_l1Primes b_spec_l1Primes_4 h_spec_l1Primes_4.dec (lf_spec_l1Primes_4 k) n K) := by
  rintro ⟨⟨x0, _, x1, _⟩, ⟨x2, _⟩⟩
  kernel_rfl
theorem lo_spec_l1Primes_4 {R : Type} (k : Nat) : LoopOk tyE.P (Func.ntmps Try.f104) (L_spec_l1Primes (R := R) k) b_spec_l1Primes_4 :=
  fn_loop tyE_ok (tab_ok (hT_spec_l1Primes k)) A_spec_l1Primes (nats []) (loops_one (R := R) (by kernel_rfl) (lo_spec_l1Primes_8 k)) h_spec_l1Primes_4 (lf_spec_l1Primes_4 k) k (fun s K => by kernel_rfl) (fun v K => by kernel_rfl) fun n v K r h => hs_spec_l1Primes_4 k n K v ▸ h
theorem hg_spec_l1Primes {R : Type} (k : Nat) (K : List SV → List Ob → Option R) : ∀ v w, g_spec_l1Primes k v w K = runF (look (T_spec_l1Primes k)) tyE A_spec_l1Primes (nats []) (L_spec_l1Primes k) (Func.ntmps Try.f104) [.tmp 2] (bodyOf Try.f104) [.int .i64] [] [.sl false 3 (.int .i64)] v w K := by
  rintro ⟨x0, _⟩ _
  kernel_rfl
theorem good_spec_l1Primes {R : Type} (k : Nat) : Good tyE.P 104 false (F_spec_l1Primes (R := R) k) :=
  fn_good tyE_ok (tab_ok (hT_spec_l1Primes k)) A_spec_l1Primes (nats []) (fn := Try.f104) (c := bodyOf Try.f104) (rs := [.tmp 2]) (by kernel_rfl) (by kernel_rfl) (by kernel_rfl) (by kernel_rfl) (L := L_spec_l1Primes k) (loops_one (R := R) (by kernel_rfl) (lo_spec_l1Primes_4 k)) [.int .i64] [] [.sl false 3 (.int .i64)] (g_spec_l1Primes k) fun v w K r h => hg_spec_l1Primes k K v w ▸ h


/-! "loop.example/localglobal/spec.l2Places" -/
noncomputable def l_spec_l2Places_4 {R : Type} (k : Nat) : Nat → List Int → Int → List Int → (List Int → Option R) → Option R
  | 0, _, _, _, _ => none
  | n + 1, v2, v3, v4, K0 => cond (decide (v3 < (v2.length : Int))) (cond (decide (0 ≤ v3) && decide (v3 < ((v2).length : Int))) (cond (decide (2 < (List.getD v2 (Int.toNat v3) 0))) (cond (decide (0 ≤ v3) && decide (v3 < ((v2).length : Int))) (cond (Nat.ble (v4.length + 1) LIM) (l_spec_l2Places_4 k n v2 (IntKind.wrap .i64 (v3 + 1)) (v4 ++ [(List.getD v2 (Int.toNat v3) 0)]) K0) none) none) (l_spec_l2Places_4 k n v2 (IntKind.wrap .i64 (v3 + 1)) v4 K0)) none) (K0 v4)

noncomputable def f_spec_l2Places {R : Type} (k : Nat) (a0 : Int) (K : List Int → Option R) : Option R :=
  f_spec_l1Primes k a0 (fun r1 => l_spec_l2Places_4 k k r1 0 [0, 2] (fun y5 => K y5))


noncomputable def g_spec_l2Places {R : Type} (k : Nat) (v : HT [.int .i64]) (w : HO []) (K : List SV → List Ob → Option R) : Option R := f_spec_l2Places k v.1 (fun r0 => K [.sl false 3 (.int .i64) r0] [])
noncomputable def F_spec_l2Places {R : Type} (k : Nat) : CF R := wrapF [.int .i64] [] (g_spec_l2Places k)
noncomputable def A_spec_l2Places : Ann := { pre := nats [], cut := look [(4, [3, 4, 5])], frz := fun i => match look [] i with | some l => l | none => [], fz := nats [], out := outOf [(0, [3])] (some [2]) }
noncomputable def T_spec_l2Places {R : Type} (k : Nat) : List (Nat × (Bool × CF R)) := [(104, (false, (F_spec_l1Primes k)))]
noncomputable abbrev h_spec_l2Places_4 : Shape := ⟨[(3, .slo 1006), (4, .sl false 3 (.int .i64)), (5, .int .i64)], [(1006, .arr 3 (.int .i64))]⟩
noncomputable def lf_spec_l2Places_4 {R : Type} (k : Nat) (n : Nat) (v : h_spec_l2Places_4.T) (K : Exit → St → Option R) : Option R := l_spec_l2Places_4 k n v.1.2.1 v.1.2.2.1 v.2.1 (fun y0 => K (.exit 0) ⟨[(3, .s (.slo 1006))], [(1006, .arr 3 (.int .i64) y0)]⟩)
noncomputable def L_spec_l2Places {R : Type} (k : Nat) (c : Code) (s : St) (K : Exit → St → Option R) : Option R := cond (Nat.beq (firstReg c) 4) ((h_spec_l2Places_4.dec (cutAt A_spec_l2Places c s)).bind fun v => lf_spec_l2Places_4 k k v K) (none)
theorem hT_spec_l2Places {R : Type} (k : Nat) : TabOk tyE.P (T_spec_l2Places (R := R) k) := ⟨(good_spec_l1Primes k), trivial⟩
noncomputable def b_spec_l2Places_4 : Code := nthLoop (bodyOf Try.f90) 0
theorem hs_spec_l2Places_4 {R : Type} (k : Nat) (n : Nat) (K : Exit → St → Option R) : ∀ v, lf_spec_l2Places_4 k (n + 1) v K = evk (look (T_spec_l2Places k)) tyE A_spec_l2Places (Func.ntmps Try.f90) (drawn (look (T_spec_l2Places k)) tyE A_spec_l2Places (nats []) (Func.ntmps Try.f90)) (L_spec_l2Places k) b_spec_l2Places_4 (h_spec_l2Places_4.enc v) (loopK A_spec_l2Places b_spec_l2Places_4 h_spec_l2Places_4.dec (lf_spec_l2Places_4 k) n K) := by
  rintro ⟨⟨_, x0, x1, _⟩, ⟨x2, _⟩⟩
  kernel_rfl
theorem lo_spec_l2Places_4 {R : Type} (k : Nat) : LoopOk tyE.P (Func.ntmps Try.f90) (L_spec_l2Places (R := R) k) b_spec_l2Places_4 :=
  fn_loop tyE_ok (tab_ok (hT_spec_l2Places k)) A_spec_l2Places (nats []) (loops_nil (R := R) (by kernel_rfl)) h_spec_l2Places_4 (lf_spec_l2Places_4 k) k (fun s K => by kernel_rfl) (fun v K => by kernel_rfl) fun n v K r h => hs_spec_l2Places_4 k n K v ▸ h
theorem hg_spec_l2Places {R : Type} (k : Nat) (K : List SV → List Ob → Option R) : ∀ v w, g_spec_l2Places k v w K = runF (look (T_spec_l2Places k)) tyE A_spec_l2Places (nats []) (L_spec_l2Places k) (Func.ntmps Try.f90) [.tmp 2] (bodyOf Try.f90) [.int .i64] [] [.sl false 3 (.int .i64)] v w K := by
  rintro ⟨x0, _⟩ _
  kernel_rfl
theorem good_spec_l2Places {R : Type} (k : Nat) : Good tyE.P 90 false (F_spec_l2Places (R := R) k) :=
  fn_good tyE_ok (tab_ok (hT_spec_l2Places k)) A_spec_l2Places (nats []) (fn := Try.f90) (c := bodyOf Try.f90) (rs := [.tmp 2]) (by kernel_rfl) (by kernel_rfl) (by kernel_rfl) (by kernel_rfl) (L := L_spec_l2Places k) (loops_one (R := R) (by kernel_rfl) (lo_spec_l2Places_4 k)) [.int .i64] [] [.sl false 3 (.int .i64)] (g_spec_l2Places k) fun v w K r h => hg_spec_l2Places k K v w ▸ h


/-! "loop.example/localglobal/spec.FormPlaces" -/
noncomputable def f_spec_FormPlaces {R : Type} (k : Nat) (a0 : List Int) (K : List Int → Option R) : Option R :=
  f_spec_FormValid k a0 (fun r1 => cond (!(r1)) (K []) (f_spec_l4Product k a0 (fun r2 => f_spec_l2Places k r2 (fun r3 => K r3))))


noncomputable def g_spec_FormPlaces {R : Type} (k : Nat) (v : HT [.sl true 3 (.int .i64)]) (w : HO []) (K : List SV → List Ob → Option R) : Option R := f_spec_FormPlaces k v.1 (fun r0 => K [.sl false 3 (.int .i64) r0] [])
noncomputable def F_spec_FormPlaces {R : Type} (k : Nat) : CF R := wrapF [.sl true 3 (.int .i64)] [] (g_spec_FormPlaces k)
noncomputable def A_spec_FormPlaces : Ann := { pre := nats [], cut := look [], frz := fun i => match look [] i with | some l => l | none => [], fz := nats [], out := outOf [] (some [2]) }
noncomputable def T_spec_FormPlaces {R : Type} (k : Nat) : List (Nat × (Bool × CF R)) := [(37, (false, (F_spec_FormValid k))), (90, (false, (F_spec_l2Places k))), (77, (false, (F_spec_l4Product k)))]
noncomputable def L_spec_FormPlaces {R : Type} (k : Nat) (c : Code) (s : St) (K : Exit → St → Option R) : Option R := none
theorem hT_spec_FormPlaces {R : Type} (k : Nat) : TabOk tyE.P (T_spec_FormPlaces (R := R) k) := ⟨(good_spec_FormValid k), (good_spec_l2Places k), (good_spec_l4Product k), trivial⟩
theorem hg_spec_FormPlaces {R : Type} (k : Nat) (K : List SV → List Ob → Option R) : ∀ v w, g_spec_FormPlaces k v w K = runF (look (T_spec_FormPlaces k)) tyE A_spec_FormPlaces (nats []) (L_spec_FormPlaces k) (Func.ntmps Try.f74) [.tmp 2] (bodyOf Try.f74) [.sl true 3 (.int .i64)] [] [.sl false 3 (.int .i64)] v w K := by
  rintro ⟨x0, _⟩ _
  kernel_rfl
theorem good_spec_FormPlaces {R : Type} (k : Nat) : Good tyE.P 74 false (F_spec_FormPlaces (R := R) k) :=
  fn_good tyE_ok (tab_ok (hT_spec_FormPlaces k)) A_spec_FormPlaces (nats []) (fn := Try.f74) (c := bodyOf Try.f74) (rs := [.tmp 2]) (by kernel_rfl) (by kernel_rfl) (by kernel_rfl) (by kernel_rfl) (L := L_spec_FormPlaces k) (loops_nil (R := R) (by kernel_rfl)) [.sl true 3 (.int .i64)] [] [.sl false 3 (.int .i64)] (g_spec_FormPlaces k) fun v w K r h => hg_spec_FormPlaces k K v w ▸ h


/-! "loop.example/localglobal/spec.l4Less" -/
noncomputable def l_spec_l4Less_3 {R : Type} (k : Nat) : Nat → List Int → Int → Int → (Int → Option R) → Option R
  | 0, _, _, _, _ => none
  | n + 1, v1, v2, v3, K0 => cond (decide (v3 < (v1.length : Int))) (cond (decide (0 ≤ v3) && decide (v3 < ((v1).length : Int))) (cond (decide ((List.getD v1 (Int.toNat v3) 0) < 0)) (l_spec_l4Less_3 k n v1 (IntKind.wrap .i64 (v2 + 1)) (IntKind.wrap .i64 (v3 + 1)) K0) (l_spec_l4Less_3 k n v1 v2 (IntKind.wrap .i64 (v3 + 1)) K0)) none) (K0 v2)

noncomputable def f_spec_l4Less {R : Type} (k : Nat) (a0 : List Int) (K : Int → Option R) : Option R :=
  l_spec_l4Less_3 k k a0 0 0 (fun y4 => K y4)


noncomputable def g_spec_l4Less {R : Type} (k : Nat) (v : HT [.sl true 3 (.int .i64)]) (w : HO []) (K : List SV → List Ob → Option R) : Option R := f_spec_l4Less k v.1 (fun r0 => K [.int .i64 r0] [])
noncomputable def F_spec_l4Less {R : Type} (k : Nat) : CF R := wrapF [.sl true 3 (.int .i64)] [] (g_spec_l4Less k)
noncomputable def A_spec_l4Less : Ann := { pre := nats [], cut := look [(3, [0, 3, 4])], frz := fun i => match look [] i with | some l => l | none => [], fz := nats [], out := outOf [(0, [3])] (some [2]) }
noncomputable def T_spec_l4Less {R : Type} (k : Nat) : List (Nat × (Bool × CF R)) := []
noncomputable abbrev h_spec_l4Less_3 : Shape := ⟨[(0, .sl true 3 (.int .i64)), (3, .int .i64), (4, .int .i64)], []⟩
noncomputable def lf_spec_l4Less_3 {R : Type} (k : Nat) (n : Nat) (v : h_spec_l4Less_3.T) (K : Exit → St → Option R) : Option R := l_spec_l4Less_3 k n v.1.1 v.1.2.1 v.1.2.2.1 (fun y0 => K (.exit 0) ⟨[(3, .s (.int .i64 y0))], []⟩)
noncomputable def L_spec_l4Less {R : Type} (k : Nat) (c : Code) (s : St) (K : Exit → St → Option R) : Option R := cond (Nat.beq (firstReg c) 3) ((h_spec_l4Less_3.dec (cutAt A_spec_l4Less c s)).bind fun v => lf_spec_l4Less_3 k k v K) (none)
theorem hT_spec_l4Less {R : Type} (k : Nat) : TabOk tyE.P (T_spec_l4Less (R := R) k) := trivial
noncomputable def b_spec_l4Less_3 : Code := nthLoop (bodyOf Try.f91) 0
theorem hs_spec_l4Less_3 {R : Type} (k : Nat) (n : Nat) (K : Exit → St → Option R) : ∀ v, lf_spec_l4Less_3 k (n + 1) v K = evk (look (T_spec_l4Less k)) tyE A_spec_l4Less (Func.ntmps Try.f91) (drawn (look (T_spec_l4Less k)) tyE A_spec_l4Less (nats []) (Func.ntmps Try.f91)) (L_spec_l4Less k) b_spec_l4Less_3 (h_spec_l4Less_3.enc v) (loopK A_spec_l4Less b_spec_l4Less_3 h_spec_l4Less_3.dec (lf_spec_l4Less_3 k) n K) := by
  rintro ⟨⟨x0, x1, x2, _⟩, _⟩
  kernel_rfl
theorem lo_spec_l4Less_3 {R : Type} (k : Nat) : LoopOk tyE.P (Func.ntmps Try.f91) (L_spec_l4Less (R := R) k) b_spec_l4Less_3 :=
  fn_loop tyE_ok (tab_ok (hT_spec_l4Less k)) A_spec_l4Less (nats []) (loops_nil (R := R) (by kernel_rfl)) h_spec_l4Less_3 (lf_spec_l4Less_3 k) k (fun s K => by kernel_rfl) (fun v K => by kernel_rfl) fun n v K r h => hs_spec_l4Less_3 k n K v ▸ h
theorem hg_spec_l4Less {R : Type} (k : Nat) (K : List SV → List Ob → Option R) : ∀ v w, g_spec_l4Less k v w K = runF (look (T_spec_l4Less k)) tyE A_spec_l4Less (nats []) (L_spec_l4Less k) (Func.ntmps Try.f91) [.tmp 2] (bodyOf Try.f91) [.sl true 3 (.int .i64)] [] [.int .i64] v w K := by
  rintro ⟨x0, _⟩ _
  kernel_rfl
theorem good_spec_l4Less {R : Type} (k : Nat) : Good tyE.P 91 false (F_spec_l4Less (R := R) k) :=
  fn_good tyE_ok (tab_ok (hT_spec_l4Less k)) A_spec_l4Less (nats []) (fn := Try.f91) (c := bodyOf Try.f91) (rs := [.tmp 2]) (by kernel_rfl) (by kernel_rfl) (by kernel_rfl) (by kernel_rfl) (L := L_spec_l4Less k) (loops_one (R := R) (by kernel_rfl) (lo_spec_l4Less_3 k)) [.sl true 3 (.int .i64)] [] [.int .i64] (g_spec_l4Less k) fun v w K r h => hg_spec_l4Less k K v w ▸ h


/-! "loop.example/localglobal/spec.l1Valuation" -/
noncomputable def l_spec_l1Valuation_2 {R : Type} (k : Nat) : Nat → Int → Int → Int → (Int → Int → Option R) → Option R
  | 0, _, _, _, _ => none
  | n + 1, v1, v2, v3, K0 => cond (!decide (v2 = 0)) (cond (decide ((Int.tmod v1 v2) = 0)) (cond (!decide (v2 = 0)) (l_spec_l1Valuation_2 k n (IntKind.wrap .i64 (Int.tdiv v1 v2)) v2 (IntKind.wrap .i64 (v3 + 1)) K0) none) (K0 v1 v3)) none

noncomputable def f_spec_l1Valuation {R : Type} (k : Nat) (a0 : Int) (a1 : Int) (K : Int → Int → Option R) : Option R :=
  l_spec_l1Valuation_2 k k a0 a1 0 (fun y4 y5 => K y5 y4)


noncomputable def g_spec_l1Valuation {R : Type} (k : Nat) (v : HT [.int .i64, .int .i64]) (w : HO []) (K : List SV → List Ob → Option R) : Option R := f_spec_l1Valuation k v.1 v.2.1 (fun r0 r1 => K [.int .i64 r0, .int .i64 r1] [])
noncomputable def F_spec_l1Valuation {R : Type} (k : Nat) : CF R := wrapF [.int .i64, .int .i64] [] (g_spec_l1Valuation k)
noncomputable def A_spec_l1Valuation : Ann := { pre := nats [], cut := look [(2, [0, 1, 6])], frz := fun i => match look [] i with | some l => l | none => [], fz := nats [], out := outOf [(0, [0, 6])] (some [4, 5]) }
noncomputable def T_spec_l1Valuation {R : Type} (k : Nat) : List (Nat × (Bool × CF R)) := []
noncomputable abbrev h_spec_l1Valuation_2 : Shape := ⟨[(0, .int .i64), (1, .int .i64), (6, .int .i64)], []⟩
noncomputable def lf_spec_l1Valuation_2 {R : Type} (k : Nat) (n : Nat) (v : h_spec_l1Valuation_2.T) (K : Exit → St → Option R) : Option R := l_spec_l1Valuation_2 k n v.1.1 v.1.2.1 v.1.2.2.1 (fun y0 y1 => K (.exit 0) ⟨[(0, .s (.int .i64 y0)), (6, .s (.int .i64 y1))], []⟩)
noncomputable def L_spec_l1Valuation {R : Type} (k : Nat) (c : Code) (s : St) (K : Exit → St → Option R) : Option R := cond (Nat.beq (firstReg c) 2) ((h_spec_l1Valuation_2.dec (cutAt A_spec_l1Valuation c s)).bind fun v => lf_spec_l1Valuation_2 k k v K) (none)
theorem hT_spec_l1Valuation {R : Type} (k : Nat) : TabOk tyE.P (T_spec_l1Valuation (R := R) k) := trivial
noncomputable def b_spec_l1Valuation_2 : Code := nthLoop (bodyOf Try.f107) 0
theorem hs_spec_l1Valuation_2 {R : Type} (k : Nat) (n : Nat) (K : Exit → St → Option R) : ∀ v, lf_spec_l1Valuation_2 k (n + 1) v K = evk (look (T_spec_l1Valuation k)) tyE A_spec_l1Valuation (Func.ntmps Try.f107) (drawn (look (T_spec_l1Valuation k)) tyE A_spec_l1Valuation (nats []) (Func.ntmps Try.f107)) (L_spec_l1Valuation k) b_spec_l1Valuation_2 (h_spec_l1Valuation_2.enc v) (loopK A_spec_l1Valuation b_spec_l1Valuation_2 h_spec_l1Valuation_2.dec (lf_spec_l1Valuation_2 k) n K) := by
  rintro ⟨⟨x0, x1, x2, _⟩, _⟩
  kernel_rfl
theorem lo_spec_l1Valuation_2 {R : Type} (k : Nat) : LoopOk tyE.P (Func.ntmps Try.f107) (L_spec_l1Valuation (R := R) k) b_spec_l1Valuation_2 :=
  fn_loop tyE_ok (tab_ok (hT_spec_l1Valuation k)) A_spec_l1Valuation (nats []) (loops_nil (R := R) (by kernel_rfl)) h_spec_l1Valuation_2 (lf_spec_l1Valuation_2 k) k (fun s K => by kernel_rfl) (fun v K => by kernel_rfl) fun n v K r h => hs_spec_l1Valuation_2 k n K v ▸ h
theorem hg_spec_l1Valuation {R : Type} (k : Nat) (K : List SV → List Ob → Option R) : ∀ v w, g_spec_l1Valuation k v w K = runF (look (T_spec_l1Valuation k)) tyE A_spec_l1Valuation (nats []) (L_spec_l1Valuation k) (Func.ntmps Try.f107) [.tmp 4, .tmp 5] (bodyOf Try.f107) [.int .i64, .int .i64] [] [.int .i64, .int .i64] v w K := by
  rintro ⟨x0, x1, _⟩ _
  kernel_rfl
theorem good_spec_l1Valuation {R : Type} (k : Nat) : Good tyE.P 107 false (F_spec_l1Valuation (R := R) k) :=
  fn_good tyE_ok (tab_ok (hT_spec_l1Valuation k)) A_spec_l1Valuation (nats []) (fn := Try.f107) (c := bodyOf Try.f107) (rs := [.tmp 4, .tmp 5]) (by kernel_rfl) (by kernel_rfl) (by kernel_rfl) (by kernel_rfl) (L := L_spec_l1Valuation k) (loops_one (R := R) (by kernel_rfl) (lo_spec_l1Valuation_2 k)) [.int .i64, .int .i64] [] [.int .i64, .int .i64] (g_spec_l1Valuation k) fun v w K r h => hg_spec_l1Valuation k K v w ▸ h


/-! "loop.example/localglobal/spec.l1Mod" -/
noncomputable def f_spec_l1Mod {R : Type} (k : Nat) (a0 : Int) (a1 : Int) (K : Int → Option R) : Option R :=
  cond (!decide (a1 = 0)) (cond (!decide (a1 = 0)) (K (Int.tmod (IntKind.wrap .i64 ((Int.tmod a0 a1) + a1)) a1)) none) none


noncomputable def g_spec_l1Mod {R : Type} (k : Nat) (v : HT [.int .i64, .int .i64]) (w : HO []) (K : List SV → List Ob → Option R) : Option R := f_spec_l1Mod k v.1 v.2.1 (fun r0 => K [.int .i64 r0] [])
noncomputable def F_spec_l1Mod {R : Type} (k : Nat) : CF R := wrapF [.int .i64, .int .i64] [] (g_spec_l1Mod k)
noncomputable def A_spec_l1Mod : Ann := { pre := nats [], cut := look [], frz := fun i => match look [] i with | some l => l | none => [], fz := nats [], out := outOf [] (some [4]) }
noncomputable def T_spec_l1Mod {R : Type} (k : Nat) : List (Nat × (Bool × CF R)) := []
noncomputable def L_spec_l1Mod {R : Type} (k : Nat) (c : Code) (s : St) (K : Exit → St → Option R) : Option R := none
theorem hT_spec_l1Mod {R : Type} (k : Nat) : TabOk tyE.P (T_spec_l1Mod (R := R) k) := trivial
theorem hg_spec_l1Mod {R : Type} (k : Nat) (K : List SV → List Ob → Option R) : ∀ v w, g_spec_l1Mod k v w K = runF (look (T_spec_l1Mod k)) tyE A_spec_l1Mod (nats []) (L_spec_l1Mod k) (Func.ntmps Try.f108) [.tmp 4] (bodyOf Try.f108) [.int .i64, .int .i64] [] [.int .i64] v w K := by
  rintro ⟨x0, x1, _⟩ _
  kernel_rfl
theorem good_spec_l1Mod {R : Type} (k : Nat) : Good tyE.P 108 false (F_spec_l1Mod (R := R) k) :=
  fn_good tyE_ok (tab_ok (hT_spec_l1Mod k)) A_spec_l1Mod (nats []) (fn := Try.f108) (c := bodyOf Try.f108) (rs := [.tmp 4]) (by kernel_rfl) (by kernel_rfl) (by kernel_rfl) (by kernel_rfl) (L := L_spec_l1Mod k) (loops_nil (R := R) (by kernel_rfl)) [.int .i64, .int .i64] [] [.int .i64] (g_spec_l1Mod k) fun v w K r h => hg_spec_l1Mod k K v w ▸ h


/-! "loop.example/localglobal/spec.l1Power" -/
noncomputable def l_spec_l1Power_3 {R : Type} (k : Nat) : Nat → Int → Int → Int → Int → (Int → Option R) → Option R
  | 0, _, _, _, _, _ => none
  | n + 1, v2, v3, v4, v5, K0 => cond (decide (0 < v3)) (cond (decide ((Int.tmod v3 2) = 1)) (cond (!decide (v4 = 0)) (cond (!decide (v4 = 0)) (l_spec_l1Power_3 k n (Int.tmod (IntKind.wrap .i64 (v2 * v2)) v4) (IntKind.wrap .i64 (Int.tdiv v3 2)) v4 (Int.tmod (IntKind.wrap .i64 (v5 * v2)) v4) K0) none) none) (cond (!decide (v4 = 0)) (l_spec_l1Power_3 k n (Int.tmod (IntKind.wrap .i64 (v2 * v2)) v4) (IntKind.wrap .i64 (Int.tdiv v3 2)) v4 v5 K0) none)) (K0 v5)

noncomputable def f_spec_l1Power {R : Type} (k : Nat) (a0 : Int) (a1 : Int) (a2 : Int) (K : Int → Option R) : Option R :=
  cond (!decide (a2 = 0)) (f_spec_l1Mod k a0 a2 (fun r1 => l_spec_l1Power_3 k k r1 a1 a2 (Int.tmod 1 a2) (fun y6 => K y6))) none


noncomputable def g_spec_l1Power {R : Type} (k : Nat) (v : HT [.int .i64, .int .i64, .int .i64]) (w : HO []) (K : List SV → List Ob → Option R) : Option R := f_spec_l1Power k v.1 v.2.1 v.2.2.1 (fun r0 => K [.int .i64 r0] [])
noncomputable def F_spec_l1Power {R : Type} (k : Nat) : CF R := wrapF [.int .i64, .int .i64, .int .i64] [] (g_spec_l1Power k)
noncomputable def A_spec_l1Power : Ann := { pre := nats [], cut := look [(3, [0, 1, 2, 7])], frz := fun i => match look [] i with | some l => l | none => [], fz := nats [], out := outOf [(0, [7])] (some [6]) }
noncomputable def T_spec_l1Power {R : Type} (k : Nat) : List (Nat × (Bool × CF R)) := [(108, (false, (F_spec_l1Mod k)))]
noncomputable abbrev h_spec_l1Power_3 : Shape := ⟨[(0, .int .i64), (1, .int .i64), (2, .int .i64), (7, .int .i64)], []⟩
noncomputable def lf_spec_l1Power_3 {R : Type} (k : Nat) (n : Nat) (v : h_spec_l1Power_3.T) (K : Exit → St → Option R) : Option R := l_spec_l1Power_3 k n v.1.1 v.1.2.1 v.1.2.2.1 v.1.2.2.2.1 (fun y0 => K (.exit 0) ⟨[(7, .s (.int .i64 y0))], []⟩)
noncomputable def L_spec_l1Power {R : Type} (k : Nat) (c : Code) (s : St) (K : Exit → St → Option R) : Option R := cond (Nat.beq (firstReg c) 3) ((h_spec_l1Power_3.dec (cutAt A_spec_l1Power c s)).bind fun v => lf_spec_l1Power_3 k k v K) (none)
theorem hT_spec_l1Power {R : Type} (k : Nat) : TabOk tyE.P (T_spec_l1Power (R := R) k) := ⟨(good_spec_l1Mod k), trivial⟩
noncomputable def b_spec_l1Power_3 : Code := nthLoop (bodyOf Try.f123) 0
theorem hs_spec_l1Power_3 {R : Type} (k : Nat) (n : Nat) (K : Exit → St → Option R) : ∀ v, lf_spec_l1Power_3 k (n + 1) v K = evk (look (T_spec_l1Power k)) tyE A_spec_l1Power (Func.ntmps Try.f123) (drawn (look (T_spec_l1Power k)) tyE A_spec_l1Power (nats []) (Func.ntmps Try.f123)) (L_spec_l1Power k) b_spec_l1Power_3 (h_spec_l1Power_3.enc v) (loopK A_spec_l1Power b_spec_l1Power_3 h_spec_l1Power_3.dec (lf_spec_l1Power_3 k) n K) := by
  rintro ⟨⟨x0, x1, x2, x3, _⟩, _⟩
  kernel_rfl
theorem lo_spec_l1Power_3 {R : Type} (k : Nat) : LoopOk tyE.P (Func.ntmps Try.f123) (L_spec_l1Power (R := R) k) b_spec_l1Power_3 :=
  fn_loop tyE_ok (tab_ok (hT_spec_l1Power k)) A_spec_l1Power (nats []) (loops_nil (R := R) (by kernel_rfl)) h_spec_l1Power_3 (lf_spec_l1Power_3 k) k (fun s K => by kernel_rfl) (fun v K => by kernel_rfl) fun n v K r h => hs_spec_l1Power_3 k n K v ▸ h
theorem hg_spec_l1Power {R : Type} (k : Nat) (K : List SV → List Ob → Option R) : ∀ v w, g_spec_l1Power k v w K = runF (look (T_spec_l1Power k)) tyE A_spec_l1Power (nats []) (L_spec_l1Power k) (Func.ntmps Try.f123) [.tmp 6] (bodyOf Try.f123) [.int .i64, .int .i64, .int .i64] [] [.int .i64] v w K := by
  rintro ⟨x0, x1, x2, _⟩ _
  kernel_rfl
theorem good_spec_l1Power {R : Type} (k : Nat) : Good tyE.P 123 false (F_spec_l1Power (R := R) k) :=
  fn_good tyE_ok (tab_ok (hT_spec_l1Power k)) A_spec_l1Power (nats []) (fn := Try.f123) (c := bodyOf Try.f123) (rs := [.tmp 6]) (by kernel_rfl) (by kernel_rfl) (by kernel_rfl) (by kernel_rfl) (L := L_spec_l1Power k) (loops_one (R := R) (by kernel_rfl) (lo_spec_l1Power_3 k)) [.int .i64, .int .i64, .int .i64] [] [.int .i64] (g_spec_l1Power k) fun v w K r h => hg_spec_l1Power k K v w ▸ h


/-! "loop.example/localglobal/spec.l1Residue" -/
noncomputable def f_spec_l1Residue {R : Type} (k : Nat) (a0 : Int) (a1 : Int) (K : Int → Option R) : Option R :=
  f_spec_l1Power k a0 (IntKind.wrap .i64 (Int.tdiv (IntKind.wrap .i64 (a1 - 1)) 2)) a1 (fun r1 => cond (decide (r1 = (IntKind.wrap .i64 (a1 - 1)))) (K (-1)) (K r1))


noncomputable def g_spec_l1Residue {R : Type} (k : Nat) (v : HT [.int .i64, .int .i64]) (w : HO []) (K : List SV → List Ob → Option R) : Option R := f_spec_l1Residue k v.1 v.2.1 (fun r0 => K [.int .i64 r0] [])
noncomputable def F_spec_l1Residue {R : Type} (k : Nat) : CF R := wrapF [.int .i64, .int .i64] [] (g_spec_l1Residue k)
noncomputable def A_spec_l1Residue : Ann := { pre := nats [], cut := look [], frz := fun i => match look [] i with | some l => l | none => [], fz := nats [], out := outOf [] (some [4]) }
noncomputable def T_spec_l1Residue {R : Type} (k : Nat) : List (Nat × (Bool × CF R)) := [(123, (false, (F_spec_l1Power k)))]
noncomputable def L_spec_l1Residue {R : Type} (k : Nat) (c : Code) (s : St) (K : Exit → St → Option R) : Option R := none
theorem hT_spec_l1Residue {R : Type} (k : Nat) : TabOk tyE.P (T_spec_l1Residue (R := R) k) := ⟨(good_spec_l1Power k), trivial⟩
theorem hg_spec_l1Residue {R : Type} (k : Nat) (K : List SV → List Ob → Option R) : ∀ v w, g_spec_l1Residue k v w K = runF (look (T_spec_l1Residue k)) tyE A_spec_l1Residue (nats []) (L_spec_l1Residue k) (Func.ntmps Try.f109) [.tmp 4] (bodyOf Try.f109) [.int .i64, .int .i64] [] [.int .i64] v w K := by
  rintro ⟨x0, x1, _⟩ _
  kernel_rfl
theorem good_spec_l1Residue {R : Type} (k : Nat) : Good tyE.P 109 false (F_spec_l1Residue (R := R) k) :=
  fn_good tyE_ok (tab_ok (hT_spec_l1Residue k)) A_spec_l1Residue (nats []) (fn := Try.f109) (c := bodyOf Try.f109) (rs := [.tmp 4]) (by kernel_rfl) (by kernel_rfl) (by kernel_rfl) (by kernel_rfl) (L := L_spec_l1Residue k) (loops_nil (R := R) (by kernel_rfl)) [.int .i64, .int .i64] [] [.int .i64] (g_spec_l1Residue k) fun v w K r h => hg_spec_l1Residue k K v w ▸ h


/-! "loop.example/localglobal/spec.l2Square" -/
noncomputable def f_spec_l2Square {R : Type} (k : Nat) (a0 : Int) (a1 : Int) (K : Bool → Option R) : Option R :=
  cond (decide (a1 = 0)) (K (decide (0 < a0))) (f_spec_l1Valuation k a0 a1 (fun r1 r2 => cond (decide (a1 = 2)) (cond (decide ((Int.tmod r1 2) = 0)) (f_spec_l1Mod k r2 8 (fun r3 => K (decide (r3 = 1)))) (K false)) (cond (decide ((Int.tmod r1 2) = 0)) (f_spec_l1Residue k r2 a1 (fun r4 => K (decide (r4 = 1)))) (K false))))


noncomputable def g_spec_l2Square {R : Type} (k : Nat) (v : HT [.int .i64, .int .i64]) (w : HO []) (K : List SV → List Ob → Option R) : Option R := f_spec_l2Square k v.1 v.2.1 (fun r0 => K [.bool r0] [])
noncomputable def F_spec_l2Square {R : Type} (k : Nat) : CF R := wrapF [.int .i64, .int .i64] [] (g_spec_l2Square k)
noncomputable def A_spec_l2Square : Ann := { pre := nats [], cut := look [], frz := fun i => match look [] i with | some l => l | none => [], fz := nats [], out := outOf [] (some [4]) }
noncomputable def T_spec_l2Square {R : Type} (k : Nat) : List (Nat × (Bool × CF R)) := [(108, (false, (F_spec_l1Mod k))), (109, (false, (F_spec_l1Residue k))), (107, (false, (F_spec_l1Valuation k)))]
noncomputable def L_spec_l2Square {R : Type} (k : Nat) (c : Code) (s : St) (K : Exit → St → Option R) : Option R := none
theorem hT_spec_l2Square {R : Type} (k : Nat) : TabOk tyE.P (T_spec_l2Square (R := R) k) := ⟨(good_spec_l1Mod k), (good_spec_l1Residue k), (good_spec_l1Valuation k), trivial⟩
theorem hg_spec_l2Square {R : Type} (k : Nat) (K : List SV → List Ob → Option R) : ∀ v w, g_spec_l2Square k v w K = runF (look (T_spec_l2Square k)) tyE A_spec_l2Square (nats []) (L_spec_l2Square k) (Func.ntmps Try.f93) [.tmp 4] (bodyOf Try.f93) [.int .i64, .int .i64] [] [.bool] v w K := by
  rintro ⟨x0, x1, _⟩ _
  kernel_rfl
theorem good_spec_l2Square {R : Type} (k : Nat) : Good tyE.P 93 false (F_spec_l2Square (R := R) k) :=
  fn_good tyE_ok (tab_ok (hT_spec_l2Square k)) A_spec_l2Square (nats []) (fn := Try.f93) (c := bodyOf Try.f93) (rs := [.tmp 4]) (by kernel_rfl) (by kernel_rfl) (by kernel_rfl) (by kernel_rfl) (L := L_spec_l2Square k) (loops_nil (R := R) (by kernel_rfl)) [.int .i64, .int .i64] [] [.bool] (g_spec_l2Square k) fun v w K r h => hg_spec_l2Square k K v w ▸ h


/-! "loop.example/localglobal/spec.l3Half" -/
noncomputable def f_spec_l3Half {R : Type} (k : Nat) (a0 : Int) (K : Int → Option R) : Option R :=
  cond (decide ((Int.tmod a0 2) = 0)) (K 1) (K (-1))


noncomputable def g_spec_l3Half {R : Type} (k : Nat) (v : HT [.int .i64]) (w : HO []) (K : List SV → List Ob → Option R) : Option R := f_spec_l3Half k v.1 (fun r0 => K [.int .i64 r0] [])
noncomputable def F_spec_l3Half {R : Type} (k : Nat) : CF R := wrapF [.int .i64] [] (g_spec_l3Half k)
noncomputable def A_spec_l3Half : Ann := { pre := nats [], cut := look [], frz := fun i => match look [] i with | some l => l | none => [], fz := nats [], out := outOf [] (some [2]) }
noncomputable def T_spec_l3Half {R : Type} (k : Nat) : List (Nat × (Bool × CF R)) := []
noncomputable def L_spec_l3Half {R : Type} (k : Nat) (c : Code) (s : St) (K : Exit → St → Option R) : Option R := none
theorem hT_spec_l3Half {R : Type} (k : Nat) : TabOk tyE.P (T_spec_l3Half (R := R) k) := trivial
theorem hg_spec_l3Half {R : Type} (k : Nat) (K : List SV → List Ob → Option R) : ∀ v w, g_spec_l3Half k v w K = runF (look (T_spec_l3Half k)) tyE A_spec_l3Half (nats []) (L_spec_l3Half k) (Func.ntmps Try.f122) [.tmp 2] (bodyOf Try.f122) [.int .i64] [] [.int .i64] v w K := by
  rintro ⟨x0, _⟩ _
  kernel_rfl
theorem good_spec_l3Half {R : Type} (k : Nat) : Good tyE.P 122 false (F_spec_l3Half (R := R) k) :=
  fn_good tyE_ok (tab_ok (hT_spec_l3Half k)) A_spec_l3Half (nats []) (fn := Try.f122) (c := bodyOf Try.f122) (rs := [.tmp 2]) (by kernel_rfl) (by kernel_rfl) (by kernel_rfl) (by kernel_rfl) (L := L_spec_l3Half k) (loops_nil (R := R) (by kernel_rfl)) [.int .i64] [] [.int .i64] (g_spec_l3Half k) fun v w K r h => hg_spec_l3Half k K v w ▸ h


/-! "loop.example/localglobal/spec.l3Symbol" -/
noncomputable def f_spec_l3Symbol {R : Type} (k : Nat) (a0 : Int) (a1 : Int) (a2 : Int) (K : Int → Option R) : Option R :=
  cond (decide (a2 = 0)) (cond (decide (a0 < 0)) (cond (decide (a1 < 0)) (K (-1)) (K 1)) (K 1)) (f_spec_l1Valuation k a0 a2 (fun r1 r2 => f_spec_l1Valuation k a1 a2 (fun r3 r4 => cond (decide (a2 = 2)) (f_spec_l1Mod k r2 16 (fun r5 => f_spec_l1Mod k r4 16 (fun r6 => f_spec_l3Half k (IntKind.wrap .i64 ((IntKind.wrap .i64 ((IntKind.wrap .i64 ((IntKind.wrap .i64 (Int.tdiv (IntKind.wrap .i64 (r5 - 1)) 2)) * (IntKind.wrap .i64 (Int.tdiv (IntKind.wrap .i64 (r6 - 1)) 2)))) + (IntKind.wrap .i64 (r1 * (IntKind.wrap .i64 (Int.tdiv (IntKind.wrap .i64 ((IntKind.wrap .i64 (r6 * r6)) - 1)) 8)))))) + (IntKind.wrap .i64 (r3 * (IntKind.wrap .i64 (Int.tdiv (IntKind.wrap .i64 ((IntKind.wrap .i64 (r5 * r5)) - 1)) 8)))))) (fun r7 => K r7)))) (f_spec_l3Half k (IntKind.wrap .i64 ((IntKind.wrap .i64 (r1 * r3)) * (IntKind.wrap .i64 (Int.tdiv (IntKind.wrap .i64 (a2 - 1)) 2)))) (fun r8 => cond (decide ((Int.tmod r3 2) = 1)) (f_spec_l1Residue k r2 a2 (fun r9 => cond (decide ((Int.tmod r1 2) = 1)) (f_spec_l1Residue k r4 a2 (fun r10 => K (IntKind.wrap .i64 ((IntKind.wrap .i64 (r8 * r9)) * r10)))) (K (IntKind.wrap .i64 (r8 * r9))))) (cond (decide ((Int.tmod r1 2) = 1)) (f_spec_l1Residue k r4 a2 (fun r11 => K (IntKind.wrap .i64 (r8 * r11)))) (K r8)))))))


noncomputable def g_spec_l3Symbol {R : Type} (k : Nat) (v : HT [.int .i64, .int .i64, .int .i64]) (w : HO []) (K : List SV → List Ob → Option R) : Option R := f_spec_l3Symbol k v.1 v.2.1 v.2.2.1 (fun r0 => K [.int .i64 r0] [])
noncomputable def F_spec_l3Symbol {R : Type} (k : Nat) : CF R := wrapF [.int .i64, .int .i64, .int .i64] [] (g_spec_l3Symbol k)
noncomputable def A_spec_l3Symbol : Ann := { pre := nats [], cut := look [], frz := fun i => match look [] i with | some l => l | none => [], fz := nats [], out := outOf [] (some [6]) }
noncomputable def T_spec_l3Symbol {R : Type} (k : Nat) : List (Nat × (Bool × CF R)) := [(108, (false, (F_spec_l1Mod k))), (109, (false, (F_spec_l1Residue k))), (107, (false, (F_spec_l1Valuation k))), (122, (false, (F_spec_l3Half k)))]
noncomputable def L_spec_l3Symbol {R : Type} (k : Nat) (c : Code) (s : St) (K : Exit → St → Option R) : Option R := none
theorem hT_spec_l3Symbol {R : Type} (k : Nat) : TabOk tyE.P (T_spec_l3Symbol (R := R) k) := ⟨(good_spec_l1Mod k), (good_spec_l1Residue k), (good_spec_l1Valuation k), (good_spec_l3Half k), trivial⟩
theorem hg_spec_l3Symbol {R : Type} (k : Nat) (K : List SV → List Ob → Option R) : ∀ v w, g_spec_l3Symbol k v w K = runF (look (T_spec_l3Symbol k)) tyE A_spec_l3Symbol (nats []) (L_spec_l3Symbol k) (Func.ntmps Try.f106) [.tmp 6] (bodyOf Try.f106) [.int .i64, .int .i64, .int .i64] [] [.int .i64] v w K := by
  rintro ⟨x0, x1, x2, _⟩ _
  kernel_rfl
theorem good_spec_l3Symbol {R : Type} (k : Nat) : Good tyE.P 106 false (F_spec_l3Symbol (R := R) k) :=
  fn_good tyE_ok (tab_ok (hT_spec_l3Symbol k)) A_spec_l3Symbol (nats []) (fn := Try.f106) (c := bodyOf Try.f106) (rs := [.tmp 6]) (by kernel_rfl) (by kernel_rfl) (by kernel_rfl) (by kernel_rfl) (L := L_spec_l3Symbol k) (loops_nil (R := R) (by kernel_rfl)) [.int .i64, .int .i64, .int .i64] [] [.int .i64] (g_spec_l3Symbol k) fun v w K r h => hg_spec_l3Symbol k K v w ▸ h


/-! "loop.example/localglobal/spec.l4Invariant" -/
noncomputable def l_spec_l4Invariant_6 {R : Type} (k : Nat) : Nat → List Int → Int → Int → Int → Int → (List Int → Int → Int → Int → Option R) → Option R
  | 0, _, _, _, _, _, _ => none
  | n + 1, v5, v6, v7, v8, v9, K0 => cond (decide (v9 < v8)) (cond (decide (0 ≤ v9) && decide (v9 < ((v5).length : Int))) (cond (decide (0 ≤ v8) && decide (v8 < ((v5).length : Int))) (f_spec_l3Symbol k (List.getD v5 (Int.toNat v9) 0) (List.getD v5 (Int.toNat v8) 0) v6 (fun r10 => l_spec_l4Invariant_6 k n v5 v6 (IntKind.wrap .i64 (v7 * r10)) v8 (IntKind.wrap .i64 (v9 + 1)) K0)) none) none) (K0 v5 v6 v7 v8)

noncomputable def l_spec_l4Invariant_3 {R : Type} (k : Nat) : Nat → List Int → Int → Int → Int → (Int → Option R) → Option R
  | 0, _, _, _, _, _ => none
  | n + 1, v1, v2, v3, v4, K0 => cond (decide (v4 < (v1.length : Int))) (l_spec_l4Invariant_6 k k v1 v2 v3 v4 0 (fun y11 y12 y13 y14 => l_spec_l4Invariant_3 k n y11 y12 y13 (IntKind.wrap .i64 (y14 + 1)) K0)) (K0 v3)

noncomputable def f_spec_l4Invariant {R : Type} (k : Nat) (a0 : List Int) (a1 : Int) (K : Int → Option R) : Option R :=
  l_spec_l4Invariant_3 k k a0 a1 1 0 (fun y15 => K y15)


noncomputable def g_spec_l4Invariant {R : Type} (k : Nat) (v : HT [.sl true 3 (.int .i64), .int .i64]) (w : HO []) (K : List SV → List Ob → Option R) : Option R := f_spec_l4Invariant k v.1 v.2.1 (fun r0 => K [.int .i64 r0] [])
noncomputable def F_spec_l4Invariant {R : Type} (k : Nat) : CF R := wrapF [.sl true 3 (.int .i64), .int .i64] [] (g_spec_l4Invariant k)
noncomputable def A_spec_l4Invariant : Ann := { pre := nats [], cut := look [(3, [0, 1, 5, 6]), (6, [0, 1, 5, 6, 7])], frz := fun i => match look [] i with | some l => l | none => [], fz := nats [], out := outOf [(0, [5]), (2, [0, 1, 5, 6])] (some [4]) }
noncomputable def T_spec_l4Invariant {R : Type} (k : Nat) : List (Nat × (Bool × CF R)) := [(106, (false, (F_spec_l3Symbol k)))]
noncomputable abbrev h_spec_l4Invariant_3 : Shape := ⟨[(0, .sl true 3 (.int .i64)), (1, .int .i64), (5, .int .i64), (6, .int .i64)], []⟩
noncomputable def lf_spec_l4Invariant_3 {R : Type} (k : Nat) (n : Nat) (v : h_spec_l4Invariant_3.T) (K : Exit → St → Option R) : Option R := l_spec_l4Invariant_3 k n v.1.1 v.1.2.1 v.1.2.2.1 v.1.2.2.2.1 (fun y0 => K (.exit 0) ⟨[(5, .s (.int .i64 y0))], []⟩)
noncomputable abbrev h_spec_l4Invariant_6 : Shape := ⟨[(0, .sl true 3 (.int .i64)), (1, .int .i64), (5, .int .i64), (6, .int .i64), (7, .int .i64)], []⟩
noncomputable def lf_spec_l4Invariant_6 {R : Type} (k : Nat) (n : Nat) (v : h_spec_l4Invariant_6.T) (K : Exit → St → Option R) : Option R := l_spec_l4Invariant_6 k n v.1.1 v.1.2.1 v.1.2.2.1 v.1.2.2.2.1 v.1.2.2.2.2.1 (fun y0 y1 y2 y3 => K (.exit 2) ⟨[(0, .s (.sl true 3 (.int .i64) y0)), (1, .s (.int .i64 y1)), (5, .s (.int .i64 y2)), (6, .s (.int .i64 y3))], []⟩)
noncomputable def L_spec_l4Invariant {R : Type} (k : Nat) (c : Code) (s : St) (K : Exit → St → Option R) : Option R := cond (Nat.beq (firstReg c) 6) ((h_spec_l4Invariant_6.dec (cutAt A_spec_l4Invariant c s)).bind fun v => lf_spec_l4Invariant_6 k k v K) (cond (Nat.beq (firstReg c) 3) ((h_spec_l4Invariant_3.dec (cutAt A_spec_l4Invariant c s)).bind fun v => lf_spec_l4Invariant_3 k k v K) (none))
theorem hT_spec_l4Invariant {R : Type} (k : Nat) : TabOk tyE.P (T_spec_l4Invariant (R := R) k) := ⟨(good_spec_l3Symbol k), trivial⟩
noncomputable def b_spec_l4Invariant_3 : Code := nthLoop (bodyOf Try.f105) 0
noncomputable def b_spec_l4Invariant_6 : Code := nthLoop (b_spec_l4Invariant_3) 0
theorem hs_spec_l4Invariant_6 {R : Type} (k : Nat) (n : Nat) (K : Exit → St → Option R) : ∀ v, lf_spec_l4Invariant_6 k (n + 1) v K = evk (look (T_spec_l4Invariant k)) tyE A_spec_l4Invariant (Func.ntmps Try.f105) (drawn (look (T_spec_l4Invariant k)) tyE A_spec_l4Invariant (nats []) (Func.ntmps Try.f105)) (L_spec_l4Invariant k) b_spec_l4Invariant_6 (h_spec_l4Invariant_6.enc v) (loopK A_spec_l4Invariant b_spec_l4Invariant_6 h_spec_l4Invariant_6.dec (lf_spec_l4Invariant_6 k) n K) := by
  rintro ⟨⟨x0, x1, x2, x3, x4, _⟩, _⟩
  kernel_rfl
theorem lo_spec_l4Invariant_6 {R : Type} (k : Nat) : LoopOk tyE.P (Func.ntmps Try.f105) (L_spec_l4Invariant (R := R) k) b_spec_l4Invariant_6 :=
  fn_loop tyE_ok (tab_ok (hT_spec_l4Invariant k)) A_spec_l4Invariant (nats []) (loops_nil (R := R) (by kernel_rfl)) h_spec_l4Invariant_6 (lf_spec_l4Invariant_6 k) k (fun s K => by kernel_rfl) (fun v K => by kernel_rfl) fun n v K r h => hs_spec_l4Invariant_6 k n K v ▸ h
theorem hs_spec_l4Invariant_3 {R : Type} (k : Nat) (n : Nat) (K : Exit → St → Option R) : ∀ v, lf_spec_l4Invariant_3 k (n + 1) v K = evk (look (T_spec_l4Invariant k)) tyE A_spec_l4Invariant (Func.ntmps Try.f105) (drawn (look (T_spec_l4Invariant k)) tyE A_spec_l4Invariant (nats []) (Func.ntmps Try.f105)) (L_spec_l4Invariant k) b_spec_l4Invariant_3 (h_spec_l4Invariant_3.enc v) (loopK A_spec_l4Invariant b_spec_l4Invariant_3 h_spec_l4Invariant_3.dec (lf_spec_l4Invariant_3 k) n K) := by
  rintro ⟨⟨x0, x1, x2, x3, _⟩, _⟩
  kernel_rfl
theorem lo_spec_l4Invariant_3 {R : Type} (k : Nat) : LoopOk tyE.P (Func.ntmps Try.f105) (L_spec_l4Invariant (R := R) k) b_spec_l4Invariant_3 :=
  fn_loop tyE_ok (tab_ok (hT_spec_l4Invariant k)) A_spec_l4Invariant (nats []) (loops_one (R := R) (by kernel_rfl) (lo_spec_l4Invariant_6 k)) h_spec_l4Invariant_3 (lf_spec_l4Invariant_3 k) k (fun s K => by kernel_rfl) (fun v K => by kernel_rfl) fun n v K r h => hs_spec_l4Invariant_3 k n K v ▸ h
theorem hg_spec_l4Invariant {R : Type} (k : Nat) (K : List SV → List Ob → Option R) : ∀ v w, g_spec_l4Invariant k v w K = runF (look (T_spec_l4Invariant k)) tyE A_spec_l4Invariant (nats []) (L_spec_l4Invariant k) (Func.ntmps Try.f105) [.tmp 4] (bodyOf Try.f105) [.sl true 3 (.int .i64), .int .i64] [] [.int .i64] v w K := by
  rintro ⟨x0, x1, _⟩ _
  kernel_rfl
theorem good_spec_l4Invariant {R : Type} (k : Nat) : Good tyE.P 105 false (F_spec_l4Invariant (R := R) k) :=
  fn_good tyE_ok (tab_ok (hT_spec_l4Invariant k)) A_spec_l4Invariant (nats []) (fn := Try.f105) (c := bodyOf Try.f105) (rs := [.tmp 4]) (by kernel_rfl) (by kernel_rfl) (by kernel_rfl) (by kernel_rfl) (L := L_spec_l4Invariant k) (loops_one (R := R) (by kernel_rfl) (lo_spec_l4Invariant_3 k)) [.sl true 3 (.int .i64), .int .i64] [] [.int .i64] (g_spec_l4Invariant k) fun v w K r h => hg_spec_l4Invariant k K v w ▸ h


/-! "loop.example/localglobal/spec.l4Vanishes" -/
noncomputable def f_spec_l4Vanishes {R : Type} (k : Nat) (a0 : List Int) (a1 : Int) (K : Bool → Option R) : Option R :=
  cond (decide (a1 = 0)) (f_spec_l4Less k a0 (fun r1 => cond (decide (0 < r1)) (f_spec_l4Less k a0 (fun r2 => K (decide (r2 < (a0.length : Int))))) (K false))) (f_spec_l4Product k a0 (fun r3 => cond (decide ((a0.length : Int) = 1)) (K false) (cond (decide ((a0.length : Int) = 2)) (f_spec_l2Square k (IntKind.wrap .i64 (0 - r3)) a1 (fun r4 => K r4)) (cond (decide ((a0.length : Int) = 3)) (f_spec_l4Invariant k a0 a1 (fun r5 => f_spec_l3Symbol k (-1) (IntKind.wrap .i64 (0 - r3)) a1 (fun r6 => K (decide (r5 = r6))))) (f_spec_l2Square k r3 a1 (fun r7 => cond (!(r7)) (K true) (f_spec_l4Invariant k a0 a1 (fun r8 => f_spec_l3Symbol k (-1) (-1) a1 (fun r9 => K (decide (r8 = r9)))))))))))


noncomputable def g_spec_l4Vanishes {R : Type} (k : Nat) (v : HT [.sl true 3 (.int .i64), .int .i64]) (w : HO []) (K : List SV → List Ob → Option R) : Option R := f_spec_l4Vanishes k v.1 v.2.1 (fun r0 => K [.bool r0] [])
noncomputable def F_spec_l4Vanishes {R : Type} (k : Nat) : CF R := wrapF [.sl true 3 (.int .i64), .int .i64] [] (g_spec_l4Vanishes k)
noncomputable def A_spec_l4Vanishes : Ann := { pre := nats [], cut := look [], frz := fun i => match look [] i with | some l => l | none => [], fz := nats [], out := outOf [] (some [4]) }
noncomputable def T_spec_l4Vanishes {R : Type} (k : Nat) : List (Nat × (Bool × CF R)) := [(93, (false, (F_spec_l2Square k))), (106, (false, (F_spec_l3Symbol k))), (105, (false, (F_spec_l4Invariant k))), (91, (false, (F_spec_l4Less k))), (77, (false, (F_spec_l4Product k)))]
noncomputable def L_spec_l4Vanishes {R : Type} (k : Nat) (c : Code) (s : St) (K : Exit → St → Option R) : Option R := none
theorem hT_spec_l4Vanishes {R : Type} (k : Nat) : TabOk tyE.P (T_spec_l4Vanishes (R := R) k) := ⟨(good_spec_l2Square k), (good_spec_l3Symbol k), (good_spec_l4Invariant k), (good_spec_l4Less k), (good_spec_l4Product k), trivial⟩
theorem hg_spec_l4Vanishes {R : Type} (k : Nat) (K : List SV → List Ob → Option R) : ∀ v w, g_spec_l4Vanishes k v w K = runF (look (T_spec_l4Vanishes k)) tyE A_spec_l4Vanishes (nats []) (L_spec_l4Vanishes k) (Func.ntmps Try.f92) [.tmp 4] (bodyOf Try.f92) [.sl true 3 (.int .i64), .int .i64] [] [.bool] v w K := by
  rintro ⟨x0, x1, _⟩ _
  kernel_rfl
theorem good_spec_l4Vanishes {R : Type} (k : Nat) : Good tyE.P 92 false (F_spec_l4Vanishes (R := R) k) :=
  fn_good tyE_ok (tab_ok (hT_spec_l4Vanishes k)) A_spec_l4Vanishes (nats []) (fn := Try.f92) (c := bodyOf Try.f92) (rs := [.tmp 4]) (by kernel_rfl) (by kernel_rfl) (by kernel_rfl) (by kernel_rfl) (L := L_spec_l4Vanishes k) (loops_nil (R := R) (by kernel_rfl)) [.sl true 3 (.int .i64), .int .i64] [] [.bool] (g_spec_l4Vanishes k) fun v w K r h => hg_spec_l4Vanishes k K v w ▸ h


/-! "loop.example/localglobal/spec.l9Planes" -/
noncomputable def f_spec_l9Planes {R : Type} (k : Nat) (a0 : List Int) (a1 : Int) (K : Int → Option R) : Option R :=
  cond (decide (a1 = 0)) (f_spec_l4Less k a0 (fun r1 => f_spec_l4Less k a0 (fun r2 => K (cond (decide ((IntKind.wrap .i64 ((a0.length : Int) - r2)) < r1)) (IntKind.wrap .i64 ((a0.length : Int) - r2)) r1)))) (f_spec_l4Vanishes k a0 a1 (fun r3 => cond (!(r3)) (K 0) (cond (decide ((a0.length : Int) = 4)) (f_spec_l4Product k a0 (fun r4 => f_spec_l2Square k r4 a1 (fun r5 => cond (r5) (K 2) (K 1)))) (K 1))))


noncomputable def g_spec_l9Planes {R : Type} (k : Nat) (v : HT [.sl true 3 (.int .i64), .int .i64]) (w : HO []) (K : List SV → List Ob → Option R) : Option R := f_spec_l9Planes k v.1 v.2.1 (fun r0 => K [.int .i64 r0] [])
noncomputable def F_spec_l9Planes {R : Type} (k : Nat) : CF R := wrapF [.sl true 3 (.int .i64), .int .i64] [] (g_spec_l9Planes k)
noncomputable def A_spec_l9Planes : Ann := { pre := nats [], cut := look [], frz := fun i => match look [] i with | some l => l | none => [], fz := nats [], out := outOf [] (some [4]) }
noncomputable def T_spec_l9Planes {R : Type} (k : Nat) : List (Nat × (Bool × CF R)) := [(93, (false, (F_spec_l2Square k))), (91, (false, (F_spec_l4Less k))), (77, (false, (F_spec_l4Product k))), (92, (false, (F_spec_l4Vanishes k)))]
noncomputable def L_spec_l9Planes {R : Type} (k : Nat) (c : Code) (s : St) (K : Exit → St → Option R) : Option R := none
theorem hT_spec_l9Planes {R : Type} (k : Nat) : TabOk tyE.P (T_spec_l9Planes (R := R) k) := ⟨(good_spec_l2Square k), (good_spec_l4Less k), (good_spec_l4Product k), (good_spec_l4Vanishes k), trivial⟩
theorem hg_spec_l9Planes {R : Type} (k : Nat) (K : List SV → List Ob → Option R) : ∀ v w, g_spec_l9Planes k v w K = runF (look (T_spec_l9Planes k)) tyE A_spec_l9Planes (nats []) (L_spec_l9Planes k) (Func.ntmps Try.f75) [.tmp 4] (bodyOf Try.f75) [.sl true 3 (.int .i64), .int .i64] [] [.int .i64] v w K := by
  rintro ⟨x0, x1, _⟩ _
  kernel_rfl
theorem good_spec_l9Planes {R : Type} (k : Nat) : Good tyE.P 75 false (F_spec_l9Planes (R := R) k) :=
  fn_good tyE_ok (tab_ok (hT_spec_l9Planes k)) A_spec_l9Planes (nats []) (fn := Try.f75) (c := bodyOf Try.f75) (rs := [.tmp 4]) (by kernel_rfl) (by kernel_rfl) (by kernel_rfl) (by kernel_rfl) (L := L_spec_l9Planes k) (loops_nil (R := R) (by kernel_rfl)) [.sl true 3 (.int .i64), .int .i64] [] [.int .i64] (g_spec_l9Planes k) fun v w K r h => hg_spec_l9Planes k K v w ▸ h


/-! "loop.example/localglobal/spec.PlanesAll" -/
noncomputable def l_spec_PlanesAll_6 {R : Type} (k : Nat) : Nat → List Int → List Int → Int → Int → (Int → Option R) → Option R
  | 0, _, _, _, _, _ => none
  | n + 1, v3, v4, v5, v6, K0 => cond (decide (v6 < (v4.length : Int))) (cond (decide (0 ≤ v6) && decide (v6 < ((v4).length : Int))) (f_spec_l9Planes k v3 (List.getD v4 (Int.toNat v6) 0) (fun r7 => l_spec_PlanesAll_6 k n v3 v4 (cond (decide (r7 < v5)) r7 v5) (IntKind.wrap .i64 (v6 + 1)) K0)) none) (K0 v5)

noncomputable def f_spec_PlanesAll {R : Type} (k : Nat) (a0 : List Int) (K : Int → Option R) : Option R :=
  f_spec_FormPlaces k a0 (fun r1 => cond (decide ((r1.length : Int) = 0)) (K (-1)) (f_spec_l9Planes k a0 0 (fun r2 => l_spec_PlanesAll_6 k k a0 r1 r2 0 (fun y8 => K y8))))


noncomputable def g_spec_PlanesAll {R : Type} (k : Nat) (v : HT [.sl true 3 (.int .i64)]) (w : HO []) (K : List SV → List Ob → Option R) : Option R := f_spec_PlanesAll k v.1 (fun r0 => K [.int .i64 r0] [])
noncomputable def F_spec_PlanesAll {R : Type} (k : Nat) : CF R := wrapF [.sl true 3 (.int .i64)] [] (g_spec_PlanesAll k)
noncomputable def A_spec_PlanesAll : Ann := { pre := nats [], cut := look [(6, [0, 3, 4, 5])], frz := fun i => match look [] i with | some l => l | none => [], fz := nats [], out := outOf [(0, [4])] (some [2]) }
noncomputable def T_spec_PlanesAll {R : Type} (k : Nat) : List (Nat × (Bool × CF R)) := [(74, (false, (F_spec_FormPlaces k))), (75, (false, (F_spec_l9Planes k)))]
noncomputable abbrev h_spec_PlanesAll_6 : Shape := ⟨[(0, .sl true 3 (.int .i64)), (3, .sl false 3 (.int .i64)), (4, .int .i64), (5, .int .i64)], []⟩
noncomputable def lf_spec_PlanesAll_6 {R : Type} (k : Nat) (n : Nat) (v : h_spec_PlanesAll_6.T) (K : Exit → St → Option R) : Option R := l_spec_PlanesAll_6 k n v.1.1 v.1.2.1 v.1.2.2.1 v.1.2.2.2.1 (fun y0 => K (.exit 0) ⟨[(4, .s (.int .i64 y0))], []⟩)
noncomputable def L_spec_PlanesAll {R : Type} (k : Nat) (c : Code) (s : St) (K : Exit → St → Option R) : Option R := cond (Nat.beq (firstReg c) 6) ((h_spec_PlanesAll_6.dec (cutAt A_spec_PlanesAll c s)).bind fun v => lf_spec_PlanesAll_6 k k v K) (none)
theorem hT_spec_PlanesAll {R : Type} (k : Nat) : TabOk tyE.P (T_spec_PlanesAll (R := R) k) := ⟨(good_spec_FormPlaces k), (good_spec_l9Planes k), trivial⟩
noncomputable def b_spec_PlanesAll_6 : Code := nthLoop (bodyOf Try.f50) 0
theorem hs_spec_PlanesAll_6 {R : Type} (k : Nat) (n : Nat) (K : Exit → St → Option R) : ∀ v, lf_spec_PlanesAll_6 k (n + 1) v K = evk (look (T_spec_PlanesAll k)) tyE A_spec_PlanesAll (Func.ntmps Try.f50) (drawn (look (T_spec_PlanesAll k)) tyE A_spec_PlanesAll (nats []) (Func.ntmps Try.f50)) (L_spec_PlanesAll k) b_spec_PlanesAll_6 (h_spec_PlanesAll_6.enc v) (loopK A_spec_PlanesAll b_spec_PlanesAll_6 h_spec_PlanesAll_6.dec (lf_spec_PlanesAll_6 k) n K) := by
  rintro ⟨⟨x0, x1, x2, x3, _⟩, _⟩
  kernel_rfl
theorem lo_spec_PlanesAll_6 {R : Type} (k : Nat) : LoopOk tyE.P (Func.ntmps Try.f50) (L_spec_PlanesAll (R := R) k) b_spec_PlanesAll_6 :=
  fn_loop tyE_ok (tab_ok (hT_spec_PlanesAll k)) A_spec_PlanesAll (nats []) (loops_nil (R := R) (by kernel_rfl)) h_spec_PlanesAll_6 (lf_spec_PlanesAll_6 k) k (fun s K => by kernel_rfl) (fun v K => by kernel_rfl) fun n v K r h => hs_spec_PlanesAll_6 k n K v ▸ h
theorem hg_spec_PlanesAll {R : Type} (k : Nat) (K : List SV → List Ob → Option R) : ∀ v w, g_spec_PlanesAll k v w K = runF (look (T_spec_PlanesAll k)) tyE A_spec_PlanesAll (nats []) (L_spec_PlanesAll k) (Func.ntmps Try.f50) [.tmp 2] (bodyOf Try.f50) [.sl true 3 (.int .i64)] [] [.int .i64] v w K := by
  rintro ⟨x0, _⟩ _
  kernel_rfl
theorem good_spec_PlanesAll {R : Type} (k : Nat) : Good tyE.P 50 false (F_spec_PlanesAll (R := R) k) :=
  fn_good tyE_ok (tab_ok (hT_spec_PlanesAll k)) A_spec_PlanesAll (nats []) (fn := Try.f50) (c := bodyOf Try.f50) (rs := [.tmp 2]) (by kernel_rfl) (by kernel_rfl) (by kernel_rfl) (by kernel_rfl) (L := L_spec_PlanesAll k) (loops_one (R := R) (by kernel_rfl) (lo_spec_PlanesAll_6 k)) [.sl true 3 (.int .i64)] [] [.int .i64] (g_spec_PlanesAll k) fun v w K r h => hg_spec_PlanesAll k K v w ▸ h


/-! "loop.example/localglobal/spec.l1Core" -/
noncomputable def l_spec_l1Core_5 {R : Type} (k : Nat) : Nat → Int → Int → Int → (Int → Int → Int → Option R) → Option R
  | 0, _, _, _, _ => none
  | n + 1, v5, v6, v7, K0 => cond (!decide ((IntKind.wrap .i64 (v7 * v7)) = 0)) (cond (decide ((Int.tmod v5 (IntKind.wrap .i64 (v7 * v7))) = 0)) (cond (!decide ((IntKind.wrap .i64 (v7 * v7)) = 0)) (l_spec_l1Core_5 k n (IntKind.wrap .i64 (Int.tdiv v5 (IntKind.wrap .i64 (v7 * v7)))) (IntKind.wrap .i64 (v6 * v7)) v7 K0) none) (K0 v5 v6 v7)) none

noncomputable def l_spec_l1Core_3 {R : Type} (k : Nat) : Nat → Int → Int → Int → (Int → Int → Option R) → Option R
  | 0, _, _, _, _ => none
  | n + 1, v1, v2, v3, K0 => f_spec_l1Size k v1 (fun r4 => cond (decide ((IntKind.wrap .i64 (v3 * v3)) ≤ r4)) (l_spec_l1Core_5 k k v1 v2 v3 (fun y8 y9 y10 => l_spec_l1Core_3 k n y8 y9 (IntKind.wrap .i64 (y10 + 1)) K0)) (K0 v1 v2))

noncomputable def f_spec_l1Core {R : Type} (k : Nat) (a0 : Int) (K : Int → Int → Option R) : Option R :=
  l_spec_l1Core_3 k k a0 1 2 (fun y11 y12 => K y11 y12)


noncomputable def g_spec_l1Core {R : Type} (k : Nat) (v : HT [.int .i64]) (w : HO []) (K : List SV → List Ob → Option R) : Option R := f_spec_l1Core k v.1 (fun r0 r1 => K [.int .i64 r0, .int .i64 r1] [])
noncomputable def F_spec_l1Core {R : Type} (k : Nat) : CF R := wrapF [.int .i64] [] (g_spec_l1Core k)
noncomputable def A_spec_l1Core : Ann := { pre := nats [], cut := look [(3, [0, 4, 5]), (5, [0, 4, 5])], frz := fun i => match look [] i with | some l => l | none => [], fz := nats [], out := outOf [(0, [0, 4]), (2, [0, 4, 5])] (some [2, 3]) }
noncomputable def T_spec_l1Core {R : Type} (k : Nat) : List (Nat × (Bool × CF R)) := [(51, (false, (F_spec_l1Size k)))]
noncomputable abbrev h_spec_l1Core_3 : Shape := ⟨[(0, .int .i64), (4, .int .i64), (5, .int .i64)], []⟩
noncomputable def lf_spec_l1Core_3 {R : Type} (k : Nat) (n : Nat) (v : h_spec_l1Core_3.T) (K : Exit → St → Option R) : Option R := l_spec_l1Core_3 k n v.1.1 v.1.2.1 v.1.2.2.1 (fun y0 y1 => K (.exit 0) ⟨[(0, .s (.int .i64 y0)), (4, .s (.int .i64 y1))], []⟩)
noncomputable abbrev h_spec_l1Core_5 : Shape := ⟨[(0, .int .i64), (4, .int .i64), (5, .int .i64)], []⟩
noncomputable def lf_spec_l1Core_5 {R : Type} (k : Nat) (n : Nat) (v : h_spec_l1Core_5.T) (K : Exit → St → Option R) : Option R := l_spec_l1Core_5 k n v.1.1 v.1.2.1 v.1.2.2.1 (fun y0 y1 y2 => K (.exit 2) ⟨[(0, .s (.int .i64 y0)), (4, .s (.int .i64 y1)), (5, .s (.int .i64 y2))], []⟩)
noncomputable def L_spec_l1Core {R : Type} (k : Nat) (c : Code) (s : St) (K : Exit → St → Option R) : Option R := cond (Nat.beq (firstReg c) 5) ((h_spec_l1Core_5.dec (cutAt A_spec_l1Core c s)).bind fun v => lf_spec_l1Core_5 k k v K) (cond (Nat.beq (firstReg c) 3) ((h_spec_l1Core_3.dec (cutAt A_spec_l1Core c s)).bind fun v => lf_spec_l1Core_3 k k v K) (none))
theorem hT_spec_l1Core {R : Type} (k : Nat) : TabOk tyE.P (T_spec_l1Core (R := R) k) := ⟨(good_spec_l1Size k), trivial⟩
noncomputable def b_spec_l1Core_3 : Code := nthLoop (bodyOf Try.f76) 0
noncomputable def b_spec_l1Core_5 : Code := nthLoop (b_spec_l1Core_3) 0
theorem hs_spec_l1Core_5 {R : Type} (k : Nat) (n : Nat) (K : Exit → St → Option R) : ∀ v, lf_spec_l1Core_5 k (n + 1) v K = evk (look (T_spec_l1Core k)) tyE A_spec_l1Core (Func.ntmps Try.f76) (drawn (look (T_spec_l1Core k)) tyE A_spec_l1Core (nats []) (Func.ntmps Try.f76)) (L_spec_l1Core k) b_spec_l1Core_5 (h_spec_l1Core_5.enc v) (loopK A_spec_l1Core b_spec_l1Core_5 h_spec_l1Core_5.dec (lf_spec_l1Core_5 k) n K) := by
  rintro ⟨⟨x0, x1, x2, _⟩, _⟩
  kernel_rfl
theorem lo_spec_l1Core_5 {R : Type} (k : Nat) : LoopOk tyE.P (Func.ntmps Try.f76) (L_spec_l1Core (R := R) k) b_spec_l1Core_5 :=
  fn_loop tyE_ok (tab_ok (hT_spec_l1Core k)) A_spec_l1Core (nats []) (loops_nil (R := R) (by kernel_rfl)) h_spec_l1Core_5 (lf_spec_l1Core_5 k) k (fun s K => by kernel_rfl) (fun v K => by kernel_rfl) fun n v K r h => hs_spec_l1Core_5 k n K v ▸ h
theorem hs_spec_l1Core_3 {R : Type} (k : Nat) (n : Nat) (K : Exit → St → Option R) : ∀ v, lf_spec_l1Core_3 k (n + 1) v K = evk (look (T_spec_l1Core k)) tyE A_spec_l1Core (Func.ntmps Try.f76) (drawn (look (T_spec_l1Core k)) tyE A_spec_l1Core (nats []) (Func.ntmps Try.f76)) (L_spec_l1Core k) b_spec_l1Core_3 (h_spec_l1Core_3.enc v) (loopK A_spec_l1Core b_spec_l1Core_3 h_spec_l1Core_3.dec (lf_spec_l1Core_3 k) n K) := by
  rintro ⟨⟨x0, x1, x2, _⟩, _⟩
  kernel_rfl
theorem lo_spec_l1Core_3 {R : Type} (k : Nat) : LoopOk tyE.P (Func.ntmps Try.f76) (L_spec_l1Core (R := R) k) b_spec_l1Core_3 :=
  fn_loop tyE_ok (tab_ok (hT_spec_l1Core k)) A_spec_l1Core (nats []) (loops_one (R := R) (by kernel_rfl) (lo_spec_l1Core_5 k)) h_spec_l1Core_3 (lf_spec_l1Core_3 k) k (fun s K => by kernel_rfl) (fun v K => by kernel_rfl) fun n v K r h => hs_spec_l1Core_3 k n K v ▸ h
theorem hg_spec_l1Core {R : Type} (k : Nat) (K : List SV → List Ob → Option R) : ∀ v w, g_spec_l1Core k v w K = runF (look (T_spec_l1Core k)) tyE A_spec_l1Core (nats []) (L_spec_l1Core k) (Func.ntmps Try.f76) [.tmp 2, .tmp 3] (bodyOf Try.f76) [.int .i64] [] [.int .i64, .int .i64] v w K := by
  rintro ⟨x0, _⟩ _
  kernel_rfl
theorem good_spec_l1Core {R : Type} (k : Nat) : Good tyE.P 76 false (F_spec_l1Core (R := R) k) :=
  fn_good tyE_ok (tab_ok (hT_spec_l1Core k)) A_spec_l1Core (nats []) (fn := Try.f76) (c := bodyOf Try.f76) (rs := [.tmp 2, .tmp 3]) (by kernel_rfl) (by kernel_rfl) (by kernel_rfl) (by kernel_rfl) (L := L_spec_l1Core k) (loops_one (R := R) (by kernel_rfl) (lo_spec_l1Core_3 k)) [.int .i64] [] [.int .i64, .int .i64] (g_spec_l1Core k) fun v w K r h => hg_spec_l1Core k K v w ▸ h


/-! "loop.example/localglobal/spec.FormDisc" -/
noncomputable def f_spec_FormDisc {R : Type} (k : Nat) (a0 : List Int) (K : Int → Option R) : Option R :=
  f_spec_FormValid k a0 (fun r1 => cond (!(r1)) (K 0) (f_spec_l4Product k a0 (fun r2 => f_spec_l1Core k r2 (fun r3 r4 => K r3))))


noncomputable def g_spec_FormDisc {R : Type} (k : Nat) (v : HT [.sl true 3 (.int .i64)]) (w : HO []) (K : List SV → List Ob → Option R) : Option R := f_spec_FormDisc k v.1 (fun r0 => K [.int .i64 r0] [])
noncomputable def F_spec_FormDisc {R : Type} (k : Nat) : CF R := wrapF [.sl true 3 (.int .i64)] [] (g_spec_FormDisc k)
noncomputable def A_spec_FormDisc : Ann := { pre := nats [], cut := look [], frz := fun i => match look [] i with | some l => l | none => [], fz := nats [], out := outOf [] (some [2]) }
noncomputable def T_spec_FormDisc {R : Type} (k : Nat) : List (Nat × (Bool × CF R)) := [(37, (false, (F_spec_FormValid k))), (76, (false, (F_spec_l1Core k))), (77, (false, (F_spec_l4Product k)))]
noncomputable def L_spec_FormDisc {R : Type} (k : Nat) (c : Code) (s : St) (K : Exit → St → Option R) : Option R := none
theorem hT_spec_FormDisc {R : Type} (k : Nat) : TabOk tyE.P (T_spec_FormDisc (R := R) k) := ⟨(good_spec_FormValid k), (good_spec_l1Core k), (good_spec_l4Product k), trivial⟩
theorem hg_spec_FormDisc {R : Type} (k : Nat) (K : List SV → List Ob → Option R) : ∀ v w, g_spec_FormDisc k v w K = runF (look (T_spec_FormDisc k)) tyE A_spec_FormDisc (nats []) (L_spec_FormDisc k) (Func.ntmps Try.f52) [.tmp 2] (bodyOf Try.f52) [.sl true 3 (.int .i64)] [] [.int .i64] v w K := by
  rintro ⟨x0, _⟩ _
  kernel_rfl
theorem good_spec_FormDisc {R : Type} (k : Nat) : Good tyE.P 52 false (F_spec_FormDisc (R := R) k) :=
  fn_good tyE_ok (tab_ok (hT_spec_FormDisc k)) A_spec_FormDisc (nats []) (fn := Try.f52) (c := bodyOf Try.f52) (rs := [.tmp 2]) (by kernel_rfl) (by kernel_rfl) (by kernel_rfl) (by kernel_rfl) (L := L_spec_FormDisc k) (loops_nil (R := R) (by kernel_rfl)) [.sl true 3 (.int .i64)] [] [.int .i64] (g_spec_FormDisc k) fun v w K r h => hg_spec_FormDisc k K v w ▸ h


/-! "loop.example/localglobal/spec.PlanesRest" -/
noncomputable def f_spec_PlanesRest {R : Type} (k : Nat) (a0 : List Int) (K : Int → Bool → Option R) : Option R :=
  cond (!decide ((a0.length : Int) = 3)) (K 0 false) (f_spec_PlanesAll k a0 (fun r1 => cond (decide (r1 < 1)) (K 0 false) (f_spec_FormDisc k a0 (fun r2 => f_spec_l1Size k r2 (fun r3 => cond (decide (30 < r3)) (K 0 false) (f_spec_FormDisc k a0 (fun r4 => K (IntKind.wrap .i64 (0 - r4)) true)))))))


noncomputable def g_spec_PlanesRest {R : Type} (k : Nat) (v : HT [.sl true 3 (.int .i64)]) (w : HO []) (K : List SV → List Ob → Option R) : Option R := f_spec_PlanesRest k v.1 (fun r0 r1 => K [.int .i64 r0, .bool r1] [])
noncomputable def F_spec_PlanesRest {R : Type} (k : Nat) : CF R := wrapF [.sl true 3 (.int .i64)] [] (g_spec_PlanesRest k)
noncomputable def A_spec_PlanesRest : Ann := { pre := nats [], cut := look [], frz := fun i => match look [] i with | some l => l | none => [], fz := nats [], out := outOf [] (some [2, 3]) }
noncomputable def T_spec_PlanesRest {R : Type} (k : Nat) : List (Nat × (Bool × CF R)) := [(52, (false, (F_spec_FormDisc k))), (50, (false, (F_spec_PlanesAll k))), (51, (false, (F_spec_l1Size k)))]
noncomputable def L_spec_PlanesRest {R : Type} (k : Nat) (c : Code) (s : St) (K : Exit → St → Option R) : Option R := none
theorem hT_spec_PlanesRest {R : Type} (k : Nat) : TabOk tyE.P (T_spec_PlanesRest (R := R) k) := ⟨(good_spec_FormDisc k), (good_spec_PlanesAll k), (good_spec_l1Size k), trivial⟩
theorem hg_spec_PlanesRest {R : Type} (k : Nat) (K : List SV → List Ob → Option R) : ∀ v w, g_spec_PlanesRest k v w K = runF (look (T_spec_PlanesRest k)) tyE A_spec_PlanesRest (nats []) (L_spec_PlanesRest k) (Func.ntmps Try.f19) [.tmp 2, .tmp 3] (bodyOf Try.f19) [.sl true 3 (.int .i64)] [] [.int .i64, .bool] v w K := by
  rintro ⟨x0, _⟩ _
  kernel_rfl
theorem good_spec_PlanesRest {R : Type} (k : Nat) : Good tyE.P 19 false (F_spec_PlanesRest (R := R) k) :=
  fn_good tyE_ok (tab_ok (hT_spec_PlanesRest k)) A_spec_PlanesRest (nats []) (fn := Try.f19) (c := bodyOf Try.f19) (rs := [.tmp 2, .tmp 3]) (by kernel_rfl) (by kernel_rfl) (by kernel_rfl) (by kernel_rfl) (L := L_spec_PlanesRest k) (loops_nil (R := R) (by kernel_rfl)) [.sl true 3 (.int .i64)] [] [.int .i64, .bool] (g_spec_PlanesRest k) fun v w K r h => hg_spec_PlanesRest k K v w ▸ h


/-! "loop.example/localglobal/impl.alike" -/
noncomputable def f_impl_alike {R : Type} (k : Nat) (a0 : List Int) (a1 : List Int) (a2 : Int) (K : Bool → Option R) : Option R :=
  cond (decide (a2 = 0)) (f_impl_lessTerms k a0 (fun r1 => f_impl_lessTerms k a1 (fun r2 => K (decide (r1 = r2))))) (f_impl_product k a0 (fun r3 => f_impl_product k a1 (fun r4 => f_impl_localSquare k (IntKind.wrap .i64 (r3 * r4)) a2 (fun r5 => cond (r5) (f_impl_invariant k a0 a2 (fun r6 => f_impl_invariant k a1 a2 (fun r7 => K (decide (r6 = r7))))) (K false)))))


noncomputable def g_impl_alike {R : Type} (k : Nat) (v : HT [.sl true 3 (.int .i64), .sl true 3 (.int .i64), .int .i64]) (w : HO []) (K : List SV → List Ob → Option R) : Option R := f_impl_alike k v.1 v.2.1 v.2.2.1 (fun r0 => K [.bool r0] [])
noncomputable def F_impl_alike {R : Type} (k : Nat) : CF R := wrapF [.sl true 3 (.int .i64), .sl true 3 (.int .i64), .int .i64] [] (g_impl_alike k)
noncomputable def A_impl_alike : Ann := { pre := nats [], cut := look [], frz := fun i => match look [] i with | some l => l | none => [], fz := nats [], out := outOf [] (some [6]) }
noncomputable def T_impl_alike {R : Type} (k : Nat) : List (Nat × (Bool × CF R)) := [(84, (false, (F_impl_invariant k))), (82, (false, (F_impl_lessTerms k))), (83, (false, (F_impl_localSquare k))), (73, (false, (F_impl_product k)))]
noncomputable def L_impl_alike {R : Type} (k : Nat) (c : Code) (s : St) (K : Exit → St → Option R) : Option R := none
theorem hT_impl_alike {R : Type} (k : Nat) : TabOk tyE.P (T_impl_alike (R := R) k) := ⟨(good_impl_invariant k), (good_impl_lessTerms k), (good_impl_localSquare k), (good_impl_product k), trivial⟩
theorem hg_impl_alike {R : Type} (k : Nat) (K : List SV → List Ob → Option R) : ∀ v w, g_impl_alike k v w K = runF (look (T_impl_alike k)) tyE A_impl_alike (nats []) (L_impl_alike k) (Func.ntmps Try.f59) [.tmp 6] (bodyOf Try.f59) [.sl true 3 (.int .i64), .sl true 3 (.int .i64), .int .i64] [] [.bool] v w K := by
  rintro ⟨x0, x1, x2, _⟩ _
  kernel_rfl
theorem good_impl_alike {R : Type} (k : Nat) : Good tyE.P 59 false (F_impl_alike (R := R) k) :=
  fn_good tyE_ok (tab_ok (hT_impl_alike k)) A_impl_alike (nats []) (fn := Try.f59) (c := bodyOf Try.f59) (rs := [.tmp 6]) (by kernel_rfl) (by kernel_rfl) (by kernel_rfl) (by kernel_rfl) (L := L_impl_alike k) (loops_nil (R := R) (by kernel_rfl)) [.sl true 3 (.int .i64), .sl true 3 (.int .i64), .int .i64] [] [.bool] (g_impl_alike k) fun v w K r h => hg_impl_alike k K v w ▸ h


/-! "loop.example/localglobal/impl.FormSame" -/
noncomputable def l_impl_FormSame_4 {R : Type} (k : Nat) : Nat → List Int → List Int → List Int → Int → Int → (Bool → Option R) → (Option R) → Option R
  | 0, _, _, _, _, _, _, _ => none
  | n + 1, v7, v8, v9, v10, v11, K0, K1 => cond (decide (v11 < v10)) (cond (decide (0 ≤ v11) && decide (v11 < ((v9).length : Int))) (f_impl_alike k v7 v8 (List.getD v9 (Int.toNat v11) 0) (fun r12 => cond (!(r12)) (K0 false) (l_impl_FormSame_4 k n v7 v8 v9 v10 (IntKind.wrap .i64 (v11 + 1)) K0 K1))) none) (K1)

noncomputable def f_impl_FormSame {R : Type} (k : Nat) (a0 : List Int) (a1 : List Int) (K : Bool → Option R) : Option R :=
  f_impl_FormValid k a0 (fun r1 => cond (!(r1)) (K false) (f_impl_FormValid k a1 (fun r2 => cond (!(r2)) (K false) (cond (!decide ((a0.length : Int) = (a1.length : Int))) (K false) (f_impl_FormDisc k a0 (fun r3 => f_impl_FormDisc k a1 (fun r4 => cond (!decide (r3 = r4)) (K false) (f_slices_Clone k a0 (fun r5 => cond (Nat.ble (r5.length + a1.length) LIM) (f_impl_placesOf k (r5 ++ a1) (fun r6 => l_impl_FormSame_4 k k a0 a1 r6 (r6.length : Int) 0 (fun y13 => K y13) (K true))) none)))))))))


noncomputable def g_impl_FormSame {R : Type} (k : Nat) (v : HT [.sl true 3 (.int .i64), .sl true 3 (.int .i64)]) (w : HO []) (K : List SV → List Ob → Option R) : Option R := f_impl_FormSame k v.1 v.2.1 (fun r0 => K [.bool r0] [])
noncomputable def F_impl_FormSame {R : Type} (k : Nat) : CF R := wrapF [.sl true 3 (.int .i64), .sl true 3 (.int .i64)] [] (g_impl_FormSame k)
noncomputable def A_impl_FormSame : Ann := { pre := nats [], cut := look [(4, [0, 1, 33, 34, 35])], frz := fun i => match look [] i with | some l => l | none => [], fz := nats [], out := outOf [(0, [])] (some [4]) }
noncomputable def T_impl_FormSame {R : Type} (k : Nat) : List (Nat × (Bool × CF R)) := [(49, (false, (F_impl_FormDisc k))), (31, (false, (F_impl_FormValid k))), (59, (false, (F_impl_alike k))), (57, (false, (F_impl_placesOf k))), (58, (false, (F_slices_Clone k)))]
noncomputable abbrev h_impl_FormSame_4 : Shape := ⟨[(0, .sl true 3 (.int .i64)), (1, .sl true 3 (.int .i64)), (33, .sl false 3 (.int .i64)), (34, .int .i64), (35, .int .i64)], []⟩
noncomputable def lf_impl_FormSame_4 {R : Type} (k : Nat) (n : Nat) (v : h_impl_FormSame_4.T) (K : Exit → St → Option R) : Option R := l_impl_FormSame_4 k n v.1.1 v.1.2.1 v.1.2.2.1 v.1.2.2.2.1 v.1.2.2.2.2.1 (fun y0 => K (.ret) ⟨[(4, .s (.bool y0))], []⟩) (K (.exit 0) ⟨[], []⟩)
noncomputable def L_impl_FormSame {R : Type} (k : Nat) (c : Code) (s : St) (K : Exit → St → Option R) : Option R := cond (Nat.beq (firstReg c) 4) ((h_impl_FormSame_4.dec (cutAt A_impl_FormSame c s)).bind fun v => lf_impl_FormSame_4 k k v K) (none)
theorem hT_impl_FormSame {R : Type} (k : Nat) : TabOk tyE.P (T_impl_FormSame (R := R) k) := ⟨(good_impl_FormDisc k), (good_impl_FormValid k), (good_impl_alike k), (good_impl_placesOf k), (good_slices_Clone k), trivial⟩
noncomputable def b_impl_FormSame_4 : Code := nthLoop (bodyOf Try.f21) 0
theorem hs_impl_FormSame_4 {R : Type} (k : Nat) (n : Nat) (K : Exit → St → Option R) : ∀ v, lf_impl_FormSame_4 k (n + 1) v K = evk (look (T_impl_FormSame k)) tyE A_impl_FormSame (Func.ntmps Try.f21) (drawn (look (T_impl_FormSame k)) tyE A_impl_FormSame (nats []) (Func.ntmps Try.f21)) (L_impl_FormSame k) b_impl_FormSame_4 (h_impl_FormSame_4.enc v) (loopK A_impl_FormSame b_impl_FormSame_4 h_impl_FormSame_4.dec (lf_impl_FormSame_4 k) n K) := by
  rintro ⟨⟨x0, x1, x2, x3, x4, _⟩, _⟩
  kernel_rfl
theorem lo_impl_FormSame_4 {R : Type} (k : Nat) : LoopOk tyE.P (Func.ntmps Try.f21) (L_impl_FormSame (R := R) k) b_impl_FormSame_4 :=
  fn_loop tyE_ok (tab_ok (hT_impl_FormSame k)) A_impl_FormSame (nats []) (loops_nil (R := R) (by kernel_rfl)) h_impl_FormSame_4 (lf_impl_FormSame_4 k) k (fun s K => by kernel_rfl) (fun v K => by kernel_rfl) fun n v K r h => hs_impl_FormSame_4 k n K v ▸ h
theorem hg_impl_FormSame {R : Type} (k : Nat) (K : List SV → List Ob → Option R) : ∀ v w, g_impl_FormSame k v w K = runF (look (T_impl_FormSame k)) tyE A_impl_FormSame (nats []) (L_impl_FormSame k) (Func.ntmps Try.f21) [.tmp 4] (bodyOf Try.f21) [.sl true 3 (.int .i64), .sl true 3 (.int .i64)] [] [.bool] v w K := by
  rintro ⟨x0, x1, _⟩ _
  kernel_rfl
theorem good_impl_FormSame {R : Type} (k : Nat) : Good tyE.P 21 false (F_impl_FormSame (R := R) k) :=
  fn_good tyE_ok (tab_ok (hT_impl_FormSame k)) A_impl_FormSame (nats []) (fn := Try.f21) (c := bodyOf Try.f21) (rs := [.tmp 4]) (by kernel_rfl) (by kernel_rfl) (by kernel_rfl) (by kernel_rfl) (L := L_impl_FormSame k) (loops_one (R := R) (by kernel_rfl) (lo_impl_FormSame_4 k)) [.sl true 3 (.int .i64), .sl true 3 (.int .i64)] [] [.bool] (g_impl_FormSame k) fun v w K r h => hg_impl_FormSame k K v w ▸ h


/-! "loop.example/localglobal/spec.l7Form" -/
noncomputable def f_spec_l7Form {R : Type} (k : Nat) (a0 : List Int) (K : Bool → Option R) : Option R :=
  f_spec_FormValid k a0 (fun r1 => cond (r1) (K (decide ((a0.length : Int) ≤ 3))) (K false))


noncomputable def g_spec_l7Form {R : Type} (k : Nat) (v : HT [.sl true 3 (.int .i64)]) (w : HO []) (K : List SV → List Ob → Option R) : Option R := f_spec_l7Form k v.1 (fun r0 => K [.bool r0] [])
noncomputable def F_spec_l7Form {R : Type} (k : Nat) : CF R := wrapF [.sl true 3 (.int .i64)] [] (g_spec_l7Form k)
noncomputable def A_spec_l7Form : Ann := { pre := nats [], cut := look [], frz := fun i => match look [] i with | some l => l | none => [], fz := nats [], out := outOf [] (some [2]) }
noncomputable def T_spec_l7Form {R : Type} (k : Nat) : List (Nat × (Bool × CF R)) := [(37, (false, (F_spec_FormValid k)))]
noncomputable def L_spec_l7Form {R : Type} (k : Nat) (c : Code) (s : St) (K : Exit → St → Option R) : Option R := none
theorem hT_spec_l7Form {R : Type} (k : Nat) : TabOk tyE.P (T_spec_l7Form (R := R) k) := ⟨(good_spec_FormValid k), trivial⟩
theorem hg_spec_l7Form {R : Type} (k : Nat) (K : List SV → List Ob → Option R) : ∀ v w, g_spec_l7Form k v w K = runF (look (T_spec_l7Form k)) tyE A_spec_l7Form (nats []) (L_spec_l7Form k) (Func.ntmps Try.f61) [.tmp 2] (bodyOf Try.f61) [.sl true 3 (.int .i64)] [] [.bool] v w K := by
  rintro ⟨x0, _⟩ _
  kernel_rfl
theorem good_spec_l7Form {R : Type} (k : Nat) : Good tyE.P 61 false (F_spec_l7Form (R := R) k) :=
  fn_good tyE_ok (tab_ok (hT_spec_l7Form k)) A_spec_l7Form (nats []) (fn := Try.f61) (c := bodyOf Try.f61) (rs := [.tmp 2]) (by kernel_rfl) (by kernel_rfl) (by kernel_rfl) (by kernel_rfl) (L := L_spec_l7Form k) (loops_nil (R := R) (by kernel_rfl)) [.sl true 3 (.int .i64)] [] [.bool] (g_spec_l7Form k) fun v w K r h => hg_spec_l7Form k K v w ▸ h


/-! "loop.example/localglobal/spec.l9Number" -/
noncomputable def f_spec_l9Number {R : Type} (k : Nat) (a0 : Int) (K : Bool → Option R) : Option R :=
  cond (!decide (a0 = 0)) (f_spec_l6In k a0 (-30) 30 (fun r1 => K r1)) (K false)


noncomputable def g_spec_l9Number {R : Type} (k : Nat) (v : HT [.int .i64]) (w : HO []) (K : List SV → List Ob → Option R) : Option R := f_spec_l9Number k v.1 (fun r0 => K [.bool r0] [])
noncomputable def F_spec_l9Number {R : Type} (k : Nat) : CF R := wrapF [.int .i64] [] (g_spec_l9Number k)
noncomputable def A_spec_l9Number : Ann := { pre := nats [], cut := look [], frz := fun i => match look [] i with | some l => l | none => [], fz := nats [], out := outOf [] (some [2]) }
noncomputable def T_spec_l9Number {R : Type} (k : Nat) : List (Nat × (Bool × CF R)) := [(38, (false, (F_spec_l6In k)))]
noncomputable def L_spec_l9Number {R : Type} (k : Nat) (c : Code) (s : St) (K : Exit → St → Option R) : Option R := none
theorem hT_spec_l9Number {R : Type} (k : Nat) : TabOk tyE.P (T_spec_l9Number (R := R) k) := ⟨(good_spec_l6In k), trivial⟩
theorem hg_spec_l9Number {R : Type} (k : Nat) (K : List SV → List Ob → Option R) : ∀ v w, g_spec_l9Number k v w K = runF (look (T_spec_l9Number k)) tyE A_spec_l9Number (nats []) (L_spec_l9Number k) (Func.ntmps Try.f62) [.tmp 2] (bodyOf Try.f62) [.int .i64] [] [.bool] v w K := by
  rintro ⟨x0, _⟩ _
  kernel_rfl
theorem good_spec_l9Number {R : Type} (k : Nat) : Good tyE.P 62 false (F_spec_l9Number (R := R) k) :=
  fn_good tyE_ok (tab_ok (hT_spec_l9Number k)) A_spec_l9Number (nats []) (fn := Try.f62) (c := bodyOf Try.f62) (rs := [.tmp 2]) (by kernel_rfl) (by kernel_rfl) (by kernel_rfl) (by kernel_rfl) (L := L_spec_l9Number k) (loops_nil (R := R) (by kernel_rfl)) [.int .i64] [] [.bool] (g_spec_l9Number k) fun v w K r h => hg_spec_l9Number k K v w ▸ h


/-! "loop.example/localglobal/spec.l1Gcd" -/
noncomputable def l_spec_l1Gcd_3 {R : Type} (k : Nat) : Nat → Int → Int → (Int → Option R) → Option R
  | 0, _, _, _ => none
  | n + 1, v3, v4, K0 => cond (!decide (v4 = 0)) (cond (!decide (v4 = 0)) (l_spec_l1Gcd_3 k n v4 (Int.tmod v3 v4) K0) none) (K0 v3)

noncomputable def f_spec_l1Gcd {R : Type} (k : Nat) (a0 : Int) (a1 : Int) (K : Int → Option R) : Option R :=
  f_spec_l1Size k a0 (fun r1 => f_spec_l1Size k a1 (fun r2 => l_spec_l1Gcd_3 k k r1 r2 (fun y5 => K y5)))


noncomputable def g_spec_l1Gcd {R : Type} (k : Nat) (v : HT [.int .i64, .int .i64]) (w : HO []) (K : List SV → List Ob → Option R) : Option R := f_spec_l1Gcd k v.1 v.2.1 (fun r0 => K [.int .i64 r0] [])
noncomputable def F_spec_l1Gcd {R : Type} (k : Nat) : CF R := wrapF [.int .i64, .int .i64] [] (g_spec_l1Gcd k)
noncomputable def A_spec_l1Gcd : Ann := { pre := nats [], cut := look [(3, [0, 1])], frz := fun i => match look [] i with | some l => l | none => [], fz := nats [], out := outOf [(0, [0])] (some [4]) }
noncomputable def T_spec_l1Gcd {R : Type} (k : Nat) : List (Nat × (Bool × CF R)) := [(51, (false, (F_spec_l1Size k)))]
noncomputable abbrev h_spec_l1Gcd_3 : Shape := ⟨[(0, .int .i64), (1, .int .i64)], []⟩
noncomputable def lf_spec_l1Gcd_3 {R : Type} (k : Nat) (n : Nat) (v : h_spec_l1Gcd_3.T) (K : Exit → St → Option R) : Option R := l_spec_l1Gcd_3 k n v.1.1 v.1.2.1 (fun y0 => K (.exit 0) ⟨[(0, .s (.int .i64 y0))], []⟩)
noncomputable def L_spec_l1Gcd {R : Type} (k : Nat) (c : Code) (s : St) (K : Exit → St → Option R) : Option R := cond (Nat.beq (firstReg c) 3) ((h_spec_l1Gcd_3.dec (cutAt A_spec_l1Gcd c s)).bind fun v => lf_spec_l1Gcd_3 k k v K) (none)
theorem hT_spec_l1Gcd {R : Type} (k : Nat) : TabOk tyE.P (T_spec_l1Gcd (R := R) k) := ⟨(good_spec_l1Size k), trivial⟩
noncomputable def b_spec_l1Gcd_3 : Code := nthLoop (bodyOf Try.f100) 0
theorem hs_spec_l1Gcd_3 {R : Type} (k : Nat) (n : Nat) (K : Exit → St → Option R) : ∀ v, lf_spec_l1Gcd_3 k (n + 1) v K = evk (look (T_spec_l1Gcd k)) tyE A_spec_l1Gcd (Func.ntmps Try.f100) (drawn (look (T_spec_l1Gcd k)) tyE A_spec_l1Gcd (nats []) (Func.ntmps Try.f100)) (L_spec_l1Gcd k) b_spec_l1Gcd_3 (h_spec_l1Gcd_3.enc v) (loopK A_spec_l1Gcd b_spec_l1Gcd_3 h_spec_l1Gcd_3.dec (lf_spec_l1Gcd_3 k) n K) := by
  rintro ⟨⟨x0, x1, _⟩, _⟩
  kernel_rfl
theorem lo_spec_l1Gcd_3 {R : Type} (k : Nat) : LoopOk tyE.P (Func.ntmps Try.f100) (L_spec_l1Gcd (R := R) k) b_spec_l1Gcd_3 :=
  fn_loop tyE_ok (tab_ok (hT_spec_l1Gcd k)) A_spec_l1Gcd (nats []) (loops_nil (R := R) (by kernel_rfl)) h_spec_l1Gcd_3 (lf_spec_l1Gcd_3 k) k (fun s K => by kernel_rfl) (fun v K => by kernel_rfl) fun n v K r h => hs_spec_l1Gcd_3 k n K v ▸ h
theorem hg_spec_l1Gcd {R : Type} (k : Nat) (K : List SV → List Ob → Option R) : ∀ v w, g_spec_l1Gcd k v w K = runF (look (T_spec_l1Gcd k)) tyE A_spec_l1Gcd (nats []) (L_spec_l1Gcd k) (Func.ntmps Try.f100) [.tmp 4] (bodyOf Try.f100) [.int .i64, .int .i64] [] [.int .i64] v w K := by
  rintro ⟨x0, x1, _⟩ _
  kernel_rfl
theorem good_spec_l1Gcd {R : Type} (k : Nat) : Good tyE.P 100 false (F_spec_l1Gcd (R := R) k) :=
  fn_good tyE_ok (tab_ok (hT_spec_l1Gcd k)) A_spec_l1Gcd (nats []) (fn := Try.f100) (c := bodyOf Try.f100) (rs := [.tmp 4]) (by kernel_rfl) (by kernel_rfl) (by kernel_rfl) (by kernel_rfl) (L := L_spec_l1Gcd k) (loops_one (R := R) (by kernel_rfl) (lo_spec_l1Gcd_3 k)) [.int .i64, .int .i64] [] [.int .i64] (g_spec_l1Gcd k) fun v w K r h => hg_spec_l1Gcd k K v w ▸ h


/-! "loop.example/localglobal/spec.l5Plain" -/
noncomputable def l_spec_l5Plain_5 {R : Type} (k : Nat) : Nat → List Int → Int → Int → Bool → Int → (List Int → Int → Int → Option R) → Option R
  | 0, _, _, _, _, _, _ => none
  | n + 1, v1, v2, v3, v4, v5, K0 => cond (decide (v5 < (v1.length : Int))) (cond (decide (0 ≤ v5) && decide (v5 < ((v1).length : Int))) (f_spec_l1Gcd k v2 (List.getD v1 (Int.toNat v5) 0) (fun r6 => cond (decide (0 ≤ v5) && decide (v5 < ((v1).length : Int))) (cond (!decide ((List.getD v1 (Int.toNat v5) 0) = 0)) (cond (v4) (cond (decide (0 ≤ v5) && decide (v5 < ((v1).length : Int))) (cond (decide ((List.getD v1 (Int.toNat v5) 0) < 0)) (l_spec_l5Plain_5 k n v1 r6 (-1) false (IntKind.wrap .i64 (v5 + 1)) K0) (l_spec_l5Plain_5 k n v1 r6 v3 false (IntKind.wrap .i64 (v5 + 1)) K0)) none) (l_spec_l5Plain_5 k n v1 r6 v3 v4 (IntKind.wrap .i64 (v5 + 1)) K0)) (l_spec_l5Plain_5 k n v1 r6 v3 v4 (IntKind.wrap .i64 (v5 + 1)) K0)) none)) none) (K0 v1 v2 v3)

noncomputable def l_spec_l5Plain_14 {R : Type} (k : Nat) : Nat → List Int → Int → Int → Int → List Int → (List Int → Option R) → Option R
  | 0, _, _, _, _, _, _ => none
  | n + 1, v10, v11, v12, v13, v14, K0 => cond (decide (v13 < (v10.length : Int))) (cond (decide (0 ≤ v13) && decide (v13 < ((v10).length : Int))) (cond (!decide (v11 = 0)) (cond (Nat.ble (v14.length + 1) LIM) (l_spec_l5Plain_14 k n v10 v11 v12 (IntKind.wrap .i64 (v13 + 1)) (v14 ++ [(IntKind.wrap .i64 (Int.tdiv (IntKind.wrap .i64 (v12 * (List.getD v10 (Int.toNat v13) 0))) v11))]) K0) none) none) none) (K0 v14)

noncomputable def f_spec_l5Plain {R : Type} (k : Nat) (a0 : List Int) (K : List Int → Option R) : Option R :=
  l_spec_l5Plain_5 k k a0 0 1 true 0 (fun y7 y8 y9 => l_spec_l5Plain_14 k k y7 y8 y9 0 [] (fun y15 => K y15))


noncomputable def g_spec_l5Plain {R : Type} (k : Nat) (v : HT [.sl true 3 (.int .i64)]) (w : HO []) (K : List SV → List Ob → Option R) : Option R := f_spec_l5Plain k v.1 (fun r0 => K [.sl false 3 (.int .i64) r0] [])
noncomputable def F_spec_l5Plain {R : Type} (k : Nat) : CF R := wrapF [.sl true 3 (.int .i64)] [] (g_spec_l5Plain k)
noncomputable def A_spec_l5Plain : Ann := { pre := nats [], cut := look [(5, [0, 3, 4, 5, 6]), (14, [0, 3, 4, 7, 8])], frz := fun i => match look [] i with | some l => l | none => [], fz := nats [], out := outOf [(0, [0, 3, 4]), (2, [7])] (some [2]) }
noncomputable def T_spec_l5Plain {R : Type} (k : Nat) : List (Nat × (Bool × CF R)) := [(100, (false, (F_spec_l1Gcd k)))]
noncomputable abbrev h_spec_l5Plain_14 : Shape := ⟨[(0, .sl true 3 (.int .i64)), (3, .int .i64), (4, .int .i64), (7, .slo 1034), (8, .int .i64)], [(1034, .arr 3 (.int .i64))]⟩
noncomputable def lf_spec_l5Plain_14 {R : Type} (k : Nat) (n : Nat) (v : h_spec_l5Plain_14.T) (K : Exit → St → Option R) : Option R := l_spec_l5Plain_14 k n v.1.1 v.1.2.1 v.1.2.2.1 v.1.2.2.2.2.1 v.2.1 (fun y0 => K (.exit 2) ⟨[(7, .s (.slo 1034))], [(1034, .arr 3 (.int .i64) y0)]⟩)
noncomputable abbrev h_spec_l5Plain_5 : Shape := ⟨[(0, .sl true 3 (.int .i64)), (3, .int .i64), (4, .int .i64), (5, .bool), (6, .int .i64)], []⟩
noncomputable def lf_spec_l5Plain_5 {R : Type} (k : Nat) (n : Nat) (v : h_spec_l5Plain_5.T) (K : Exit → St → Option R) : Option R := l_spec_l5Plain_5 k n v.1.1 v.1.2.1 v.1.2.2.1 v.1.2.2.2.1 v.1.2.2.2.2.1 (fun y0 y1 y2 => K (.exit 0) ⟨[(0, .s (.sl true 3 (.int .i64) y0)), (3, .s (.int .i64 y1)), (4, .s (.int .i64 y2))], []⟩)
noncomputable def L_spec_l5Plain {R : Type} (k : Nat) (c : Code) (s : St) (K : Exit → St → Option R) : Option R := cond (Nat.beq (firstReg c) 5) ((h_spec_l5Plain_5.dec (cutAt A_spec_l5Plain c s)).bind fun v => lf_spec_l5Plain_5 k k v K) (cond (Nat.beq (firstReg c) 14) ((h_spec_l5Plain_14.dec (cutAt A_spec_l5Plain c s)).bind fun v => lf_spec_l5Plain_14 k k v K) (none))
theorem hT_spec_l5Plain {R : Type} (k : Nat) : TabOk tyE.P (T_spec_l5Plain (R := R) k) := ⟨(good_spec_l1Gcd k), trivial⟩
noncomputable def b_spec_l5Plain_5 : Code := nthLoop (bodyOf Try.f85) 0
theorem hs_spec_l5Plain_5 {R : Type} (k : Nat) (n : Nat) (K : Exit → St → Option R) : ∀ v, lf_spec_l5Plain_5 k (n + 1) v K = evk (look (T_spec_l5Plain k)) tyE A_spec_l5Plain (Func.ntmps Try.f85) (drawn (look (T_spec_l5Plain k)) tyE A_spec_l5Plain (nats []) (Func.ntmps Try.f85)) (L_spec_l5Plain k) b_spec_l5Plain_5 (h_spec_l5Plain_5.enc v) (loopK A_spec_l5Plain b_spec_l5Plain_5 h_spec_l5Plain_5.dec (lf_spec_l5Plain_5 k) n K) := by
  rintro ⟨⟨x0, x1, x2, x3, x4, _⟩, _⟩
  kernel_rfl
theorem lo_spec_l5Plain_5 {R : Type} (k : Nat) : LoopOk tyE.P (Func.ntmps Try.f85) (L_spec_l5Plain (R := R) k) b_spec_l5Plain_5 :=
  fn_loop tyE_ok (tab_ok (hT_spec_l5Plain k)) A_spec_l5Plain (nats []) (loops_nil (R := R) (by kernel_rfl)) h_spec_l5Plain_5 (lf_spec_l5Plain_5 k) k (fun s K => by kernel_rfl) (fun v K => by kernel_rfl) fun n v K r h => hs_spec_l5Plain_5 k n K v ▸ h
noncomputable def b_spec_l5Plain_14 : Code := nthLoop (bodyOf Try.f85) 1
theorem hs_spec_l5Plain_14 {R : Type} (k : Nat) (n : Nat) (K : Exit → St → Option R) : ∀ v, lf_spec_l5Plain_14 k (n + 1) v K = evk (look (T_spec_l5Plain k)) tyE A_spec_l5Plain (Func.ntmps Try.f85) (drawn (look (T_spec_l5Plain k)) tyE A_spec_l5Plain (nats []) (Func.ntmps Try.f85)) (L_spec_l5Plain k) b_spec_l5Plain_14 (h_spec_l5Plain_14.enc v) (loopK A_spec_l5Plain b_spec_l5Plain_14 h_spec_l5Plain_14.dec (lf_spec_l5Plain_14 k) n K) := by
  rintro ⟨⟨x0, x1, x2, _, x3, _⟩, ⟨x4, _⟩⟩
  kernel_rfl
theorem lo_spec_l5Plain_14 {R : Type} (k : Nat) : LoopOk tyE.P (Func.ntmps Try.f85) (L_spec_l5Plain (R := R) k) b_spec_l5Plain_14 :=
  fn_loop tyE_ok (tab_ok (hT_spec_l5Plain k)) A_spec_l5Plain (nats []) (loops_nil (R := R) (by kernel_rfl)) h_spec_l5Plain_14 (lf_spec_l5Plain_14 k) k (fun s K => by kernel_rfl) (fun v K => by kernel_rfl) fun n v K r h => hs_spec_l5Plain_14 k n K v ▸ h
theorem hg_spec_l5Plain {R : Type} (k : Nat) (K : List SV → List Ob → Option R) : ∀ v w, g_spec_l5Plain k v w K = runF (look (T_spec_l5Plain k)) tyE A_spec_l5Plain (nats []) (L_spec_l5Plain k) (Func.ntmps Try.f85) [.tmp 2] (bodyOf Try.f85) [.sl true 3 (.int .i64)] [] [.sl false 3 (.int .i64)] v w K := by
  rintro ⟨x0, _⟩ _
  kernel_rfl
theorem good_spec_l5Plain {R : Type} (k : Nat) : Good tyE.P 85 false (F_spec_l5Plain (R := R) k) :=
  fn_good tyE_ok (tab_ok (hT_spec_l5Plain k)) A_spec_l5Plain (nats []) (fn := Try.f85) (c := bodyOf Try.f85) (rs := [.tmp 2]) (by kernel_rfl) (by kernel_rfl) (by kernel_rfl) (by kernel_rfl) (L := L_spec_l5Plain k) (loops_two (R := R) (by kernel_rfl) (lo_spec_l5Plain_5 k) (lo_spec_l5Plain_14 k)) [.sl true 3 (.int .i64)] [] [.sl false 3 (.int .i64)] (g_spec_l5Plain k) fun v w K r h => hg_spec_l5Plain k K v w ▸ h


/-! "loop.example/localglobal/spec.l5Two" -/
noncomputable def l_spec_l5Two_2 {R : Type} (k : Nat) : Nat → List Int → Int → (Int → Int → Option R) → (Option R) → Option R
  | 0, _, _, _, _ => none
  | n + 1, v1, v2, K0, K1 => cond (decide (0 ≤ v2)) (cond (decide (0 ≤ (Int.tmod (IntKind.wrap .i64 (v2 + 1)) 3)) && decide ((Int.tmod (IntKind.wrap .i64 (v2 + 1)) 3) < ((v1).length : Int))) (cond (decide (0 ≤ (Int.tmod (IntKind.wrap .i64 (v2 + 2)) 3)) && decide ((Int.tmod (IntKind.wrap .i64 (v2 + 2)) 3) < ((v1).length : Int))) (f_spec_l1Gcd k (List.getD v1 (Int.toNat (Int.tmod (IntKind.wrap .i64 (v2 + 1)) 3)) 0) (List.getD v1 (Int.toNat (Int.tmod (IntKind.wrap .i64 (v2 + 2)) 3)) 0) (fun r3 => cond (decide (1 < r3)) (f_spec_l1Primes k r3 (fun r4 => cond (decide (0 ≤ 0) && decide (0 < ((r4).length : Int))) (K0 (List.getD r4 (Int.toNat 0) 0) v2) none)) (l_spec_l5Two_2 k n v1 (IntKind.wrap .i64 (v2 - 1)) K0 K1))) none) none) (K1)

noncomputable def f_spec_l5Two {R : Type} (k : Nat) (a0 : List Int) (K : Int → Int → Option R) : Option R :=
  l_spec_l5Two_2 k k a0 2 (fun y5 y6 => K y5 y6) (K 1 0)


noncomputable def g_spec_l5Two {R : Type} (k : Nat) (v : HT [.sl true 3 (.int .i64)]) (w : HO []) (K : List SV → List Ob → Option R) : Option R := f_spec_l5Two k v.1 (fun r0 r1 => K [.int .i64 r0, .int .i64 r1] [])
noncomputable def F_spec_l5Two {R : Type} (k : Nat) : CF R := wrapF [.sl true 3 (.int .i64)] [] (g_spec_l5Two k)
noncomputable def A_spec_l5Two : Ann := { pre := nats [], cut := look [(2, [0, 4])], frz := fun i => match look [] i with | some l => l | none => [], fz := nats [], out := outOf [(0, [])] (some [2, 3]) }
noncomputable def T_spec_l5Two {R : Type} (k : Nat) : List (Nat × (Bool × CF R)) := [(100, (false, (F_spec_l1Gcd k))), (104, (false, (F_spec_l1Primes k)))]
noncomputable abbrev h_spec_l5Two_2 : Shape := ⟨[(0, .sl true 3 (.int .i64)), (4, .int .i64)], []⟩
noncomputable def lf_spec_l5Two_2 {R : Type} (k : Nat) (n : Nat) (v : h_spec_l5Two_2.T) (K : Exit → St → Option R) : Option R := l_spec_l5Two_2 k n v.1.1 v.1.2.1 (fun y0 y1 => K (.ret) ⟨[(2, .s (.int .i64 y0)), (3, .s (.int .i64 y1))], []⟩) (K (.exit 0) ⟨[], []⟩)
noncomputable def L_spec_l5Two {R : Type} (k : Nat) (c : Code) (s : St) (K : Exit → St → Option R) : Option R := cond (Nat.beq (firstReg c) 2) ((h_spec_l5Two_2.dec (cutAt A_spec_l5Two c s)).bind fun v => lf_spec_l5Two_2 k k v K) (none)
theorem hT_spec_l5Two {R : Type} (k : Nat) : TabOk tyE.P (T_spec_l5Two (R := R) k) := ⟨(good_spec_l1Gcd k), (good_spec_l1Primes k), trivial⟩
noncomputable def b_spec_l5Two_2 : Code := nthLoop (bodyOf Try.f121) 0
theorem hs_spec_l5Two_2 {R : Type} (k : Nat) (n : Nat) (K : Exit → St → Option R) : ∀ v, lf_spec_l5Two_2 k (n + 1) v K = evk (look (T_spec_l5Two k)) tyE A_spec_l5Two (Func.ntmps Try.f121) (drawn (look (T_spec_l5Two k)) tyE A_spec_l5Two (nats []) (Func.ntmps Try.f121)) (L_spec_l5Two k) b_spec_l5Two_2 (h_spec_l5Two_2.enc v) (loopK A_spec_l5Two b_spec_l5Two_2 h_spec_l5Two_2.dec (lf_spec_l5Two_2 k) n K) := by
  rintro ⟨⟨x0, x1, _⟩, _⟩
  kernel_rfl
theorem lo_spec_l5Two_2 {R : Type} (k : Nat) : LoopOk tyE.P (Func.ntmps Try.f121) (L_spec_l5Two (R := R) k) b_spec_l5Two_2 :=
  fn_loop tyE_ok (tab_ok (hT_spec_l5Two k)) A_spec_l5Two (nats []) (loops_nil (R := R) (by kernel_rfl)) h_spec_l5Two_2 (lf_spec_l5Two_2 k) k (fun s K => by kernel_rfl) (fun v K => by kernel_rfl) fun n v K r h => hs_spec_l5Two_2 k n K v ▸ h
theorem hg_spec_l5Two {R : Type} (k : Nat) (K : List SV → List Ob → Option R) : ∀ v w, g_spec_l5Two k v w K = runF (look (T_spec_l5Two k)) tyE A_spec_l5Two (nats []) (L_spec_l5Two k) (Func.ntmps Try.f121) [.tmp 2, .tmp 3] (bodyOf Try.f121) [.sl true 3 (.int .i64)] [] [.int .i64, .int .i64] v w K := by
  rintro ⟨x0, _⟩ _
  kernel_rfl
theorem good_spec_l5Two {R : Type} (k : Nat) : Good tyE.P 121 false (F_spec_l5Two (R := R) k) :=
  fn_good tyE_ok (tab_ok (hT_spec_l5Two k)) A_spec_l5Two (nats []) (fn := Try.f121) (c := bodyOf Try.f121) (rs := [.tmp 2, .tmp 3]) (by kernel_rfl) (by kernel_rfl) (by kernel_rfl) (by kernel_rfl) (L := L_spec_l5Two k) (loops_one (R := R) (by kernel_rfl) (lo_spec_l5Two_2 k)) [.sl true 3 (.int .i64)] [] [.int .i64, .int .i64] (g_spec_l5Two k) fun v w K r h => hg_spec_l5Two k K v w ▸ h


/-! "loop.example/localglobal/spec.l5Normal" -/
noncomputable def l_spec_l5Normal_4 {R : Type} (k : Nat) : Nat → List Int → Int → List Int → List Int → (List Int → List Int → Option R) → Option R
  | 0, _, _, _, _, _ => none
  | n + 1, v1, v2, v3, v4, K0 => cond (decide (v2 < 3)) (cond (decide (0 ≤ v2) && decide (v2 < ((v1).length : Int))) (f_spec_l1Core k (List.getD v1 (Int.toNat v2) 0) (fun r5 r6 => cond (Nat.ble (v3.length + 1) LIM) (cond (decide (0 ≤ (Int.tmod (IntKind.wrap .i64 (v2 + 1)) 3)) && decide ((Int.tmod (IntKind.wrap .i64 (v2 + 1)) 3) < ((v4).length : Int))) (cond (decide (0 ≤ (Int.tmod (IntKind.wrap .i64 (v2 + 1)) 3)) && decide ((Int.tmod (IntKind.wrap .i64 (v2 + 1)) 3) < ((v4).length : Int))) (cond (decide (0 ≤ (Int.tmod (IntKind.wrap .i64 (v2 + 2)) 3)) && decide ((Int.tmod (IntKind.wrap .i64 (v2 + 2)) 3) < (((List.set v4 (Int.toNat (Int.tmod (IntKind.wrap .i64 (v2 + 1)) 3)) (IntKind.wrap .i64 ((List.getD v4 (Int.toNat (Int.tmod (IntKind.wrap .i64 (v2 + 1)) 3)) 0) * r6)))).length : Int))) (cond (decide (0 ≤ (Int.tmod (IntKind.wrap .i64 (v2 + 2)) 3)) && decide ((Int.tmod (IntKind.wrap .i64 (v2 + 2)) 3) < (((List.set v4 (Int.toNat (Int.tmod (IntKind.wrap .i64 (v2 + 1)) 3)) (IntKind.wrap .i64 ((List.getD v4 (Int.toNat (Int.tmod (IntKind.wrap .i64 (v2 + 1)) 3)) 0) * r6)))).length : Int))) (l_spec_l5Normal_4 k n v1 (IntKind.wrap .i64 (v2 + 1)) (v3 ++ [r5]) (List.set (List.set v4 (Int.toNat (Int.tmod (IntKind.wrap .i64 (v2 + 1)) 3)) (IntKind.wrap .i64 ((List.getD v4 (Int.toNat (Int.tmod (IntKind.wrap .i64 (v2 + 1)) 3)) 0) * r6))) (Int.toNat (Int.tmod (IntKind.wrap .i64 (v2 + 2)) 3)) (IntKind.wrap .i64 ((List.getD (List.set v4 (Int.toNat (Int.tmod (IntKind.wrap .i64 (v2 + 1)) 3)) (IntKind.wrap .i64 ((List.getD v4 (Int.toNat (Int.tmod (IntKind.wrap .i64 (v2 + 1)) 3)) 0) * r6))) (Int.toNat (Int.tmod (IntKind.wrap .i64 (v2 + 2)) 3)) 0) * r6))) K0) none) none) none) none) none)) none) (K0 v3 v4)

noncomputable def l_spec_l5Normal_11 {R : Type} (k : Nat) : Nat → Int → Int → List Int → List Int → (List Int → List Int → Option R) → Option R
  | 0, _, _, _, _, _ => none
  | n + 1, v11, v12, v13, v14, K0 => cond (decide (1 < v11)) (cond (decide (0 ≤ (Int.tmod (IntKind.wrap .i64 (v12 + 1)) 3)) && decide ((Int.tmod (IntKind.wrap .i64 (v12 + 1)) 3) < ((v13).length : Int))) (cond (!decide (v11 = 0)) (cond (decide (0 ≤ (Int.tmod (IntKind.wrap .i64 (v12 + 1)) 3)) && decide ((Int.tmod (IntKind.wrap .i64 (v12 + 1)) 3) < ((v13).length : Int))) (cond (decide (0 ≤ (Int.tmod (IntKind.wrap .i64 (v12 + 2)) 3)) && decide ((Int.tmod (IntKind.wrap .i64 (v12 + 2)) 3) < (((List.set v13 (Int.toNat (Int.tmod (IntKind.wrap .i64 (v12 + 1)) 3)) (IntKind.wrap .i64 (Int.tdiv (List.getD v13 (Int.toNat (Int.tmod (IntKind.wrap .i64 (v12 + 1)) 3)) 0) v11)))).length : Int))) (cond (!decide (v11 = 0)) (cond (decide (0 ≤ (Int.tmod (IntKind.wrap .i64 (v12 + 2)) 3)) && decide ((Int.tmod (IntKind.wrap .i64 (v12 + 2)) 3) < (((List.set v13 (Int.toNat (Int.tmod (IntKind.wrap .i64 (v12 + 1)) 3)) (IntKind.wrap .i64 (Int.tdiv (List.getD v13 (Int.toNat (Int.tmod (IntKind.wrap .i64 (v12 + 1)) 3)) 0) v11)))).length : Int))) (cond (decide (0 ≤ v12) && decide (v12 < (((List.set (List.set v13 (Int.toNat (Int.tmod (IntKind.wrap .i64 (v12 + 1)) 3)) (IntKind.wrap .i64 (Int.tdiv (List.getD v13 (Int.toNat (Int.tmod (IntKind.wrap .i64 (v12 + 1)) 3)) 0) v11))) (Int.toNat (Int.tmod (IntKind.wrap .i64 (v12 + 2)) 3)) (IntKind.wrap .i64 (Int.tdiv (List.getD (List.set v13 (Int.toNat (Int.tmod (IntKind.wrap .i64 (v12 + 1)) 3)) (IntKind.wrap .i64 (Int.tdiv (List.getD v13 (Int.toNat (Int.tmod (IntKind.wrap .i64 (v12 + 1)) 3)) 0) v11))) (Int.toNat (Int.tmod (IntKind.wrap .i64 (v12 + 2)) 3)) 0) v11)))).length : Int))) (cond (!decide (v11 = 0)) (cond (decide ((Int.tmod (List.getD (List.set (List.set v13 (Int.toNat (Int.tmod (IntKind.wrap .i64 (v12 + 1)) 3)) (IntKind.wrap .i64 (Int.tdiv (List.getD v13 (Int.toNat (Int.tmod (IntKind.wrap .i64 (v12 + 1)) 3)) 0) v11))) (Int.toNat (Int.tmod (IntKind.wrap .i64 (v12 + 2)) 3)) (IntKind.wrap .i64 (Int.tdiv (List.getD (List.set v13 (Int.toNat (Int.tmod (IntKind.wrap .i64 (v12 + 1)) 3)) (IntKind.wrap .i64 (Int.tdiv (List.getD v13 (Int.toNat (Int.tmod (IntKind.wrap .i64 (v12 + 1)) 3)) 0) v11))) (Int.toNat (Int.tmod (IntKind.wrap .i64 (v12 + 2)) 3)) 0) v11))) (Int.toNat v12) 0) v11) = 0)) (cond (decide (0 ≤ v12) && decide (v12 < (((List.set (List.set v13 (Int.toNat (Int.tmod (IntKind.wrap .i64 (v12 + 1)) 3)) (IntKind.wrap .i64 (Int.tdiv (List.getD v13 (Int.toNat (Int.tmod (IntKind.wrap .i64 (v12 + 1)) 3)) 0) v11))) (Int.toNat (Int.tmod (IntKind.wrap .i64 (v12 + 2)) 3)) (IntKind.wrap .i64 (Int.tdiv (List.getD (List.set v13 (Int.toNat (Int.tmod (IntKind.wrap .i64 (v12 + 1)) 3)) (IntKind.wrap .i64 (Int.tdiv (List.getD v13 (Int.toNat (Int.tmod (IntKind.wrap .i64 (v12 + 1)) 3)) 0) v11))) (Int.toNat (Int.tmod (IntKind.wrap .i64 (v12 + 2)) 3)) 0) v11)))).length : Int))) (cond (!decide (v11 = 0)) (cond (decide (0 ≤ v12) && decide (v12 < (((List.set (List.set v13 (Int.toNat (Int.tmod (IntKind.wrap .i64 (v12 + 1)) 3)) (IntKind.wrap .i64 (Int.tdiv (List.getD v13 (Int.toNat (Int.tmod (IntKind.wrap .i64 (v12 + 1)) 3)) 0) v11))) (Int.toNat (Int.tmod (IntKind.wrap .i64 (v12 + 2)) 3)) (IntKind.wrap .i64 (Int.tdiv (List.getD (List.set v13 (Int.toNat (Int.tmod (IntKind.wrap .i64 (v12 + 1)) 3)) (IntKind.wrap .i64 (Int.tdiv (List.getD v13 (Int.toNat (Int.tmod (IntKind.wrap .i64 (v12 + 1)) 3)) 0) v11))) (Int.toNat (Int.tmod (IntKind.wrap .i64 (v12 + 2)) 3)) 0) v11)))).length : Int))) (f_spec_l5Two k (List.set (List.set (List.set v13 (Int.toNat (Int.tmod (IntKind.wrap .i64 (v12 + 1)) 3)) (IntKind.wrap .i64 (Int.tdiv (List.getD v13 (Int.toNat (Int.tmod (IntKind.wrap .i64 (v12 + 1)) 3)) 0) v11))) (Int.toNat (Int.tmod (IntKind.wrap .i64 (v12 + 2)) 3)) (IntKind.wrap .i64 (Int.tdiv (List.getD (List.set v13 (Int.toNat (Int.tmod (IntKind.wrap .i64 (v12 + 1)) 3)) (IntKind.wrap .i64 (Int.tdiv (List.getD v13 (Int.toNat (Int.tmod (IntKind.wrap .i64 (v12 + 1)) 3)) 0) v11))) (Int.toNat (Int.tmod (IntKind.wrap .i64 (v12 + 2)) 3)) 0) v11))) (Int.toNat v12) (IntKind.wrap .i64 (Int.tdiv (List.getD (List.set (List.set v13 (Int.toNat (Int.tmod (IntKind.wrap .i64 (v12 + 1)) 3)) (IntKind.wrap .i64 (Int.tdiv (List.getD v13 (Int.toNat (Int.tmod (IntKind.wrap .i64 (v12 + 1)) 3)) 0) v11))) (Int.toNat (Int.tmod (IntKind.wrap .i64 (v12 + 2)) 3)) (IntKind.wrap .i64 (Int.tdiv (List.getD (List.set v13 (Int.toNat (Int.tmod (IntKind.wrap .i64 (v12 + 1)) 3)) (IntKind.wrap .i64 (Int.tdiv (List.getD v13 (Int.toNat (Int.tmod (IntKind.wrap .i64 (v12 + 1)) 3)) 0) v11))) (Int.toNat (Int.tmod (IntKind.wrap .i64 (v12 + 2)) 3)) 0) v11))) (Int.toNat v12) 0) v11))) (fun r15 r16 => l_spec_l5Normal_11 k n r15 r16 (List.set (List.set (List.set v13 (Int.toNat (Int.tmod (IntKind.wrap .i64 (v12 + 1)) 3)) (IntKind.wrap .i64 (Int.tdiv (List.getD v13 (Int.toNat (Int.tmod (IntKind.wrap .i64 (v12 + 1)) 3)) 0) v11))) (Int.toNat (Int.tmod (IntKind.wrap .i64 (v12 + 2)) 3)) (IntKind.wrap .i64 (Int.tdiv (List.getD (List.set v13 (Int.toNat (Int.tmod (IntKind.wrap .i64 (v12 + 1)) 3)) (IntKind.wrap .i64 (Int.tdiv (List.getD v13 (Int.toNat (Int.tmod (IntKind.wrap .i64 (v12 + 1)) 3)) 0) v11))) (Int.toNat (Int.tmod (IntKind.wrap .i64 (v12 + 2)) 3)) 0) v11))) (Int.toNat v12) (IntKind.wrap .i64 (Int.tdiv (List.getD (List.set (List.set v13 (Int.toNat (Int.tmod (IntKind.wrap .i64 (v12 + 1)) 3)) (IntKind.wrap .i64 (Int.tdiv (List.getD v13 (Int.toNat (Int.tmod (IntKind.wrap .i64 (v12 + 1)) 3)) 0) v11))) (Int.toNat (Int.tmod (IntKind.wrap .i64 (v12 + 2)) 3)) (IntKind.wrap .i64 (Int.tdiv (List.getD (List.set v13 (Int.toNat (Int.tmod (IntKind.wrap .i64 (v12 + 1)) 3)) (IntKind.wrap .i64 (Int.tdiv (List.getD v13 (Int.toNat (Int.tmod (IntKind.wrap .i64 (v12 + 1)) 3)) 0) v11))) (Int.toNat (Int.tmod (IntKind.wrap .i64 (v12 + 2)) 3)) 0) v11))) (Int.toNat v12) 0) v11))) v14 K0)) none) none) none) (cond (decide (0 ≤ v12) && decide (v12 < (((List.set (List.set v13 (Int.toNat (Int.tmod (IntKind.wrap .i64 (v12 + 1)) 3)) (IntKind.wrap .i64 (Int.tdiv (List.getD v13 (Int.toNat (Int.tmod (IntKind.wrap .i64 (v12 + 1)) 3)) 0) v11))) (Int.toNat (Int.tmod (IntKind.wrap .i64 (v12 + 2)) 3)) (IntKind.wrap .i64 (Int.tdiv (List.getD (List.set v13 (Int.toNat (Int.tmod (IntKind.wrap .i64 (v12 + 1)) 3)) (IntKind.wrap .i64 (Int.tdiv (List.getD v13 (Int.toNat (Int.tmod (IntKind.wrap .i64 (v12 + 1)) 3)) 0) v11))) (Int.toNat (Int.tmod (IntKind.wrap .i64 (v12 + 2)) 3)) 0) v11)))).length : Int))) (cond (decide (0 ≤ v12) && decide (v12 < (((List.set (List.set v13 (Int.toNat (Int.tmod (IntKind.wrap .i64 (v12 + 1)) 3)) (IntKind.wrap .i64 (Int.tdiv (List.getD v13 (Int.toNat (Int.tmod (IntKind.wrap .i64 (v12 + 1)) 3)) 0) v11))) (Int.toNat (Int.tmod (IntKind.wrap .i64 (v12 + 2)) 3)) (IntKind.wrap .i64 (Int.tdiv (List.getD (List.set v13 (Int.toNat (Int.tmod (IntKind.wrap .i64 (v12 + 1)) 3)) (IntKind.wrap .i64 (Int.tdiv (List.getD v13 (Int.toNat (Int.tmod (IntKind.wrap .i64 (v12 + 1)) 3)) 0) v11))) (Int.toNat (Int.tmod (IntKind.wrap .i64 (v12 + 2)) 3)) 0) v11)))).length : Int))) (cond (decide (0 ≤ v12) && decide (v12 < ((v14).length : Int))) (cond (decide (0 ≤ v12) && decide (v12 < ((v14).length : Int))) (f_spec_l5Two k (List.set (List.set (List.set v13 (Int.toNat (Int.tmod (IntKind.wrap .i64 (v12 + 1)) 3)) (IntKind.wrap .i64 (Int.tdiv (List.getD v13 (Int.toNat (Int.tmod (IntKind.wrap .i64 (v12 + 1)) 3)) 0) v11))) (Int.toNat (Int.tmod (IntKind.wrap .i64 (v12 + 2)) 3)) (IntKind.wrap .i64 (Int.tdiv (List.getD (List.set v13 (Int.toNat (Int.tmod (IntKind.wrap .i64 (v12 + 1)) 3)) (IntKind.wrap .i64 (Int.tdiv (List.getD v13 (Int.toNat (Int.tmod (IntKind.wrap .i64 (v12 + 1)) 3)) 0) v11))) (Int.toNat (Int.tmod (IntKind.wrap .i64 (v12 + 2)) 3)) 0) v11))) (Int.toNat v12) (IntKind.wrap .i64 ((List.getD (List.set (List.set v13 (Int.toNat (Int.tmod (IntKind.wrap .i64 (v12 + 1)) 3)) (IntKind.wrap .i64 (Int.tdiv (List.getD v13 (Int.toNat (Int.tmod (IntKind.wrap .i64 (v12 + 1)) 3)) 0) v11))) (Int.toNat (Int.tmod (IntKind.wrap .i64 (v12 + 2)) 3)) (IntKind.wrap .i64 (Int.tdiv (List.getD (List.set v13 (Int.toNat (Int.tmod (IntKind.wrap .i64 (v12 + 1)) 3)) (IntKind.wrap .i64 (Int.tdiv (List.getD v13 (Int.toNat (Int.tmod (IntKind.wrap .i64 (v12 + 1)) 3)) 0) v11))) (Int.toNat (Int.tmod (IntKind.wrap .i64 (v12 + 2)) 3)) 0) v11))) (Int.toNat v12) 0) * v11))) (fun r17 r18 => l_spec_l5Normal_11 k n r17 r18 (List.set (List.set (List.set v13 (Int.toNat (Int.tmod (IntKind.wrap .i64 (v12 + 1)) 3)) (IntKind.wrap .i64 (Int.tdiv (List.getD v13 (Int.toNat (Int.tmod (IntKind.wrap .i64 (v12 + 1)) 3)) 0) v11))) (Int.toNat (Int.tmod (IntKind.wrap .i64 (v12 + 2)) 3)) (IntKind.wrap .i64 (Int.tdiv (List.getD (List.set v13 (Int.toNat (Int.tmod (IntKind.wrap .i64 (v12 + 1)) 3)) (IntKind.wrap .i64 (Int.tdiv (List.getD v13 (Int.toNat (Int.tmod (IntKind.wrap .i64 (v12 + 1)) 3)) 0) v11))) (Int.toNat (Int.tmod (IntKind.wrap .i64 (v12 + 2)) 3)) 0) v11))) (Int.toNat v12) (IntKind.wrap .i64 ((List.getD (List.set (List.set v13 (Int.toNat (Int.tmod (IntKind.wrap .i64 (v12 + 1)) 3)) (IntKind.wrap .i64 (Int.tdiv (List.getD v13 (Int.toNat (Int.tmod (IntKind.wrap .i64 (v12 + 1)) 3)) 0) v11))) (Int.toNat (Int.tmod (IntKind.wrap .i64 (v12 + 2)) 3)) (IntKind.wrap .i64 (Int.tdiv (List.getD (List.set v13 (Int.toNat (Int.tmod (IntKind.wrap .i64 (v12 + 1)) 3)) (IntKind.wrap .i64 (Int.tdiv (List.getD v13 (Int.toNat (Int.tmod (IntKind.wrap .i64 (v12 + 1)) 3)) 0) v11))) (Int.toNat (Int.tmod (IntKind.wrap .i64 (v12 + 2)) 3)) 0) v11))) (Int.toNat v12) 0) * v11))) (List.set v14 (Int.toNat v12) (IntKind.wrap .i64 ((List.getD v14 (Int.toNat v12) 0) * v11))) K0)) none) none) none) none)) none) none) none) none) none) none) none) none) (K0 v13 v14)

noncomputable def f_spec_l5Normal {R : Type} (k : Nat) (a0 : List Int) (K : List Int → List Int → Option R) : Option R :=
  l_spec_l5Normal_4 k k a0 0 [] [1, 1, 1] (fun y7 y8 => f_spec_l5Two k y7 (fun r9 r10 => l_spec_l5Normal_11 k k r9 r10 y7 y8 (fun y19 y20 => K y19 y20)))


noncomputable def g_spec_l5Normal {R : Type} (k : Nat) (v : HT [.sl true 3 (.int .i64)]) (w : HO []) (K : List SV → List Ob → Option R) : Option R := f_spec_l5Normal k v.1 (fun r0 r1 => K [.sl false 3 (.int .i64) r0, .sl false 3 (.int .i64) r1] [])
noncomputable def F_spec_l5Normal {R : Type} (k : Nat) : CF R := wrapF [.sl true 3 (.int .i64)] [] (g_spec_l5Normal k)
noncomputable def A_spec_l5Normal : Ann := { pre := nats [], cut := look [(4, [0, 4, 5, 6]), (11, [4, 5, 9, 10])], frz := fun i => match look [] i with | some l => l | none => [], fz := nats [], out := outOf [(0, [4, 5]), (2, [4, 5])] (some [2, 3]) }
noncomputable def T_spec_l5Normal {R : Type} (k : Nat) : List (Nat × (Bool × CF R)) := [(76, (false, (F_spec_l1Core k))), (121, (false, (F_spec_l5Two k)))]
noncomputable abbrev h_spec_l5Normal_11 : Shape := ⟨[(4, .slo 1011), (5, .slo 1012), (9, .int .i64), (10, .int .i64)], [(1011, .arr 3 (.int .i64)), (1012, .arr 3 (.int .i64))]⟩
noncomputable def lf_spec_l5Normal_11 {R : Type} (k : Nat) (n : Nat) (v : h_spec_l5Normal_11.T) (K : Exit → St → Option R) : Option R := l_spec_l5Normal_11 k n v.1.2.2.1 v.1.2.2.2.1 v.2.1 v.2.2.1 (fun y0 y1 => K (.exit 2) ⟨[(4, .s (.slo 1011)), (5, .s (.slo 1012))], [(1011, .arr 3 (.int .i64) y0), (1012, .arr 3 (.int .i64) y1)]⟩)
noncomputable abbrev h_spec_l5Normal_4 : Shape := ⟨[(0, .sl true 3 (.int .i64)), (4, .slo 1011), (5, .slo 1012), (6, .int .i64)], [(1011, .arr 3 (.int .i64)), (1012, .arr 3 (.int .i64))]⟩
noncomputable def lf_spec_l5Normal_4 {R : Type} (k : Nat) (n : Nat) (v : h_spec_l5Normal_4.T) (K : Exit → St → Option R) : Option R := l_spec_l5Normal_4 k n v.1.1 v.1.2.2.2.1 v.2.1 v.2.2.1 (fun y0 y1 => K (.exit 0) ⟨[(4, .s (.slo 1011)), (5, .s (.slo 1012))], [(1011, .arr 3 (.int .i64) y0), (1012, .arr 3 (.int .i64) y1)]⟩)
noncomputable def L_spec_l5Normal {R : Type} (k : Nat) (c : Code) (s : St) (K : Exit → St → Option R) : Option R := cond (Nat.beq (firstReg c) 4) ((h_spec_l5Normal_4.dec (cutAt A_spec_l5Normal c s)).bind fun v => lf_spec_l5Normal_4 k k v K) (cond (Nat.beq (firstReg c) 11) ((h_spec_l5Normal_11.dec (cutAt A_spec_l5Normal c s)).bind fun v => lf_spec_l5Normal_11 k k v K) (none))
theorem hT_spec_l5Normal {R : Type} (k : Nat) : TabOk tyE.P (T_spec_l5Normal (R := R) k) := ⟨(good_spec_l1Core k), (good_spec_l5Two k), trivial⟩
noncomputable def b_spec_l5Normal_4 : Code := nthLoop (bodyOf Try.f101) 0
theorem hs_spec_l5Normal_4 {R : Type} (k : Nat) (n : Nat) (K : Exit → St → Option R) : ∀ v, lf_spec_l5Normal_4 k (n + 1) v K = evk (look (T_spec_l5Normal k)) tyE A_spec_l5Normal (Func.ntmps Try.f101) (drawn (look (T_spec_l5Normal k)) tyE A_spec_l5Normal (nats []) (Func.ntmps Try.f101)) (L_spec_l5Normal k) b_spec_l5Normal_4 (h_spec_l5Normal_4.enc v) (loopK A_spec_l5Normal b_spec_l5Normal_4 h_spec_l5Normal_4.dec (lf_spec_l5Normal_4 k) n K) := by
  rintro ⟨⟨x0, _, _, x1, _⟩, ⟨x2, x3, _⟩⟩
  kernel_rfl
theorem lo_spec_l5Normal_4 {R : Type} (k : Nat) : LoopOk tyE.P (Func.ntmps Try.f101) (L_spec_l5Normal (R := R) k) b_spec_l5Normal_4 :=
  fn_loop tyE_ok (tab_ok (hT_spec_l5Normal k)) A_spec_l5Normal (nats []) (loops_nil (R := R) (by kernel_rfl)) h_spec_l5Normal_4 (lf_spec_l5Normal_4 k) k (fun s K => by kernel_rfl) (fun v K => by kernel_rfl) fun n v K r h => hs_spec_l5Normal_4 k n K v ▸ h
noncomputable def b_spec_l5Normal_11 : Code := nthLoop (bodyOf Try.f101) 1
theorem hs_spec_l5Normal_11 {R : Type} (k : Nat) (n : Nat) (K : Exit → St → Option R) : ∀ v, lf_spec_l5Normal_11 k (n + 1) v K = evk (look (T_spec_l5Normal k)) tyE A_spec_l5Normal (Func.ntmps Try.f101) (drawn (look (T_spec_l5Normal k)) tyE A_spec_l5Normal (nats []) (Func.ntmps Try.f101)) (L_spec_l5Normal k) b_spec_l5Normal_11 (h_spec_l5Normal_11.enc v) (loopK A_spec_l5Normal b_spec_l5Normal_11 h_spec_l5Normal_11.dec (lf_spec_l5Normal_11 k) n K) := by
  rintro ⟨⟨_, _, x0, x1, _⟩, ⟨x2, x3, _⟩⟩
  kernel_rfl
theorem lo_spec_l5Normal_11 {R : Type} (k : Nat) : LoopOk tyE.P (Func.ntmps Try.f101) (L_spec_l5Normal (R := R) k) b_spec_l5Normal_11 :=
  fn_loop tyE_ok (tab_ok (hT_spec_l5Normal k)) A_spec_l5Normal (nats []) (loops_nil (R := R) (by kernel_rfl)) h_spec_l5Normal_11 (lf_spec_l5Normal_11 k) k (fun s K => by kernel_rfl) (fun v K => by kernel_rfl) fun n v K r h => hs_spec_l5Normal_11 k n K v ▸ h
theorem hg_spec_l5Normal {R : Type} (k : Nat) (K : List SV → List Ob → Option R) : ∀ v w, g_spec_l5Normal k v w K = runF (look (T_spec_l5Normal k)) tyE A_spec_l5Normal (nats []) (L_spec_l5Normal k) (Func.ntmps Try.f101) [.tmp 2, .tmp 3] (bodyOf Try.f101) [.sl true 3 (.int .i64)] [] [.sl false 3 (.int .i64), .sl false 3 (.int .i64)] v w K := by
  rintro ⟨x0, _⟩ _
  kernel_rfl
theorem good_spec_l5Normal {R : Type} (k : Nat) : Good tyE.P 101 false (F_spec_l5Normal (R := R) k) :=
  fn_good tyE_ok (tab_ok (hT_spec_l5Normal k)) A_spec_l5Normal (nats []) (fn := Try.f101) (c := bodyOf Try.f101) (rs := [.tmp 2, .tmp 3]) (by kernel_rfl) (by kernel_rfl) (by kernel_rfl) (by kernel_rfl) (L := L_spec_l5Normal k) (loops_two (R := R) (by kernel_rfl) (lo_spec_l5Normal_4 k) (lo_spec_l5Normal_11 k)) [.sl true 3 (.int .i64)] [] [.sl false 3 (.int .i64), .sl false 3 (.int .i64)] (g_spec_l5Normal k) fun v w K r h => hg_spec_l5Normal k K v w ▸ h


/-! "loop.example/localglobal/spec.l5Search" -/
noncomputable def l_spec_l5Search_8 {R : Type} (k : Nat) : Nat → Int → Int → Int → Int → Int → (Bool → List Int → Option R) → (Int → Int → Int → Int → Option R) → Option R
  | 0, _, _, _, _, _, _, _ => none
  | n + 1, v6, v7, v8, v9, v10, K0, K1 => f_spec_l1Size k (IntKind.wrap .i64 (v6 * v8)) (fun r11 => cond (decide ((IntKind.wrap .i64 (v10 * v10)) ≤ r11)) (cond (!decide (v8 = 0)) (cond (!decide ((Int.tmod (IntKind.wrap .i64 ((IntKind.wrap .i64 (0 - (IntKind.wrap .i64 ((IntKind.wrap .i64 (v6 * v9)) * v9)))) - (IntKind.wrap .i64 ((IntKind.wrap .i64 (v7 * v10)) * v10)))) v8) = 0)) (l_spec_l5Search_8 k n v6 v7 v8 v9 (IntKind.wrap .i64 (v10 + 1)) K0 K1) (cond (!decide (v8 = 0)) (cond (decide ((IntKind.wrap .i64 (Int.tdiv (IntKind.wrap .i64 ((IntKind.wrap .i64 (0 - (IntKind.wrap .i64 ((IntKind.wrap .i64 (v6 * v9)) * v9)))) - (IntKind.wrap .i64 ((IntKind.wrap .i64 (v7 * v10)) * v10)))) v8)) < 0)) (l_spec_l5Search_8 k n v6 v7 v8 v9 (IntKind.wrap .i64 (v10 + 1)) K0 K1) (cond (decide (v9 = 0)) (cond (decide (v10 = 0)) (l_spec_l5Search_8 k n v6 v7 v8 v9 (IntKind.wrap .i64 (v10 + 1)) K0 K1) (cond (!decide (v8 = 0)) (f_spec_l5Root k (IntKind.wrap .i64 (Int.tdiv (IntKind.wrap .i64 ((IntKind.wrap .i64 (0 - (IntKind.wrap .i64 ((IntKind.wrap .i64 (v6 * v9)) * v9)))) - (IntKind.wrap .i64 ((IntKind.wrap .i64 (v7 * v10)) * v10)))) v8)) (fun r12 => cond (decide (0 ≤ r12)) (K0 true [v9, v10, r12]) (l_spec_l5Search_8 k n v6 v7 v8 v9 (IntKind.wrap .i64 (v10 + 1)) K0 K1))) none)) (cond (!decide (v8 = 0)) (f_spec_l5Root k (IntKind.wrap .i64 (Int.tdiv (IntKind.wrap .i64 ((IntKind.wrap .i64 (0 - (IntKind.wrap .i64 ((IntKind.wrap .i64 (v6 * v9)) * v9)))) - (IntKind.wrap .i64 ((IntKind.wrap .i64 (v7 * v10)) * v10)))) v8)) (fun r13 => cond (decide (0 ≤ r13)) (K0 true [v9, v10, r13]) (l_spec_l5Search_8 k n v6 v7 v8 v9 (IntKind.wrap .i64 (v10 + 1)) K0 K1))) none))) none)) none) (K1 v6 v7 v8 v9))

noncomputable def l_spec_l5Search_5 {R : Type} (k : Nat) : Nat → Int → Int → Int → Int → (Bool → List Int → Option R) → (Option R) → Option R
  | 0, _, _, _, _, _, _ => none
  | n + 1, v1, v2, v3, v4, K0, K1 => f_spec_l1Size k (IntKind.wrap .i64 (v2 * v3)) (fun r5 => cond (decide ((IntKind.wrap .i64 (v4 * v4)) ≤ r5)) (l_spec_l5Search_8 k k v1 v2 v3 v4 0 (fun y14 y15 => K0 y14 y15) (fun y16 y17 y18 y19 => l_spec_l5Search_5 k n y16 y17 y18 (IntKind.wrap .i64 (y19 + 1)) K0 K1)) (K1))

noncomputable def f_spec_l5Search {R : Type} (k : Nat) (a0 : List Int) (K : List Int → Bool → Option R) : Option R :=
  cond (decide (0 ≤ 0) && decide (0 < ((a0).length : Int))) (cond (decide (0 ≤ 1) && decide (1 < ((a0).length : Int))) (cond (decide (0 ≤ 2) && decide (2 < ((a0).length : Int))) (l_spec_l5Search_5 k k (List.getD a0 (Int.toNat 0) 0) (List.getD a0 (Int.toNat 1) 0) (List.getD a0 (Int.toNat 2) 0) 0 (fun y20 y21 => K y21 y20) (K [] false)) none) none) none


noncomputable def g_spec_l5Search {R : Type} (k : Nat) (v : HT [.sl true 3 (.int .i64)]) (w : HO []) (K : List SV → List Ob → Option R) : Option R := f_spec_l5Search k v.1 (fun r0 r1 => K [.sl false 3 (.int .i64) r0, .bool r1] [])
noncomputable def F_spec_l5Search {R : Type} (k : Nat) : CF R := wrapF [.sl true 3 (.int .i64)] [] (g_spec_l5Search k)
noncomputable def A_spec_l5Search : Ann := { pre := nats [], cut := look [(5, [4, 5, 6, 7]), (8, [4, 5, 6, 7, 8])], frz := fun i => match look [] i with | some l => l | none => [], fz := nats [], out := outOf [(0, []), (2, [4, 5, 6, 7])] (some [2, 3]) }
noncomputable def T_spec_l5Search {R : Type} (k : Nat) : List (Nat × (Bool × CF R)) := [(51, (false, (F_spec_l1Size k))), (67, (false, (F_spec_l5Root k)))]
noncomputable abbrev h_spec_l5Search_5 : Shape := ⟨[(4, .int .i64), (5, .int .i64), (6, .int .i64), (7, .int .i64)], []⟩
noncomputable def lf_spec_l5Search_5 {R : Type} (k : Nat) (n : Nat) (v : h_spec_l5Search_5.T) (K : Exit → St → Option R) : Option R := l_spec_l5Search_5 k n v.1.1 v.1.2.1 v.1.2.2.1 v.1.2.2.2.1 (fun y0 y1 => K (.ret) ⟨[(2, .s (.slo 1079)), (3, .s (.bool y0))], [(1079, .arr 3 (.int .i64) y1)]⟩) (K (.exit 0) ⟨[], []⟩)
noncomputable abbrev h_spec_l5Search_8 : Shape := ⟨[(4, .int .i64), (5, .int .i64), (6, .int .i64), (7, .int .i64), (8, .int .i64)], []⟩
noncomputable def lf_spec_l5Search_8 {R : Type} (k : Nat) (n : Nat) (v : h_spec_l5Search_8.T) (K : Exit → St → Option R) : Option R := l_spec_l5Search_8 k n v.1.1 v.1.2.1 v.1.2.2.1 v.1.2.2.2.1 v.1.2.2.2.2.1 (fun y0 y1 => K (.ret) ⟨[(2, .s (.slo 1079)), (3, .s (.bool y0))], [(1079, .arr 3 (.int .i64) y1)]⟩) (fun y0 y1 y2 y3 => K (.exit 2) ⟨[(4, .s (.int .i64 y0)), (5, .s (.int .i64 y1)), (6, .s (.int .i64 y2)), (7, .s (.int .i64 y3))], []⟩)
noncomputable def L_spec_l5Search {R : Type} (k : Nat) (c : Code) (s : St) (K : Exit → St → Option R) : Option R := cond (Nat.beq (firstReg c) 8) ((h_spec_l5Search_8.dec (cutAt A_spec_l5Search c s)).bind fun v => lf_spec_l5Search_8 k k v K) (cond (Nat.beq (firstReg c) 5) ((h_spec_l5Search_5.dec (cutAt A_spec_l5Search c s)).bind fun v => lf_spec_l5Search_5 k k v K) (none))
theorem hT_spec_l5Search {R : Type} (k : Nat) : TabOk tyE.P (T_spec_l5Search (R := R) k) := ⟨(good_spec_l1Size k), (good_spec_l5Root k), trivial⟩
noncomputable def b_spec_l5Search_5 : Code := nthLoop (bodyOf Try.f102) 0
noncomputable def b_spec_l5Search_8 : Code := nthLoop (b_spec_l5Search_5) 0
theorem hs_spec_l5Search_8 {R : Type} (k : Nat) (n : Nat) (K : Exit → St → Option R) : ∀ v, lf_spec_l5Search_8 k (n + 1) v K = evk (look (T_spec_l5Search k)) tyE A_spec_l5Search (Func.ntmps Try.f102) (drawn (look (T_spec_l5Search k)) tyE A_spec_l5Search (nats []) (Func.ntmps Try.f102)) (L_spec_l5Search k) b_spec_l5Search_8 (h_spec_l5Search_8.enc v) (loopK A_spec_l5Search b_spec_l5Search_8 h_spec_l5Search_8.dec (lf_spec_l5Search_8 k) n K) := by
  rintro ⟨⟨x0, x1, x2, x3, x4, _⟩, _⟩
  kernel_rfl
theorem lo_spec_l5Search_8 {R : Type} (k : Nat) : LoopOk tyE.P (Func.ntmps Try.f102) (L_spec_l5Search (R := R) k) b_spec_l5Search_8 :=
  fn_loop tyE_ok (tab_ok (hT_spec_l5Search k)) A_spec_l5Search (nats []) (loops_nil (R := R) (by kernel_rfl)) h_spec_l5Search_8 (lf_spec_l5Search_8 k) k (fun s K => by kernel_rfl) (fun v K => by kernel_rfl) fun n v K r h => hs_spec_l5Search_8 k n K v ▸ h
theorem hs_spec_l5Search_5 {R : Type} (k : Nat) (n : Nat) (K : Exit → St → Option R) : ∀ v, lf_spec_l5Search_5 k (n + 1) v K = evk (look (T_spec_l5Search k)) tyE A_spec_l5Search (Func.ntmps Try.f102) (drawn (look (T_spec_l5Search k)) tyE A_spec_l5Search (nats []) (Func.ntmps Try.f102)) (L_spec_l5Search k) b_spec_l5Search_5 (h_spec_l5Search_5.enc v) (loopK A_spec_l5Search b_spec_l5Search_5 h_spec_l5Search_5.dec (lf_spec_l5Search_5 k) n K) := by
  rintro ⟨⟨x0, x1, x2, x3, _⟩, _⟩
  kernel_rfl
theorem lo_spec_l5Search_5 {R : Type} (k : Nat) : LoopOk tyE.P (Func.ntmps Try.f102) (L_spec_l5Search (R := R) k) b_spec_l5Search_5 :=
  fn_loop tyE_ok (tab_ok (hT_spec_l5Search k)) A_spec_l5Search (nats []) (loops_one (R := R) (by kernel_rfl) (lo_spec_l5Search_8 k)) h_spec_l5Search_5 (lf_spec_l5Search_5 k) k (fun s K => by kernel_rfl) (fun v K => by kernel_rfl) fun n v K r h => hs_spec_l5Search_5 k n K v ▸ h
theorem hg_spec_l5Search {R : Type} (k : Nat) (K : List SV → List Ob → Option R) : ∀ v w, g_spec_l5Search k v w K = runF (look (T_spec_l5Search k)) tyE A_spec_l5Search (nats []) (L_spec_l5Search k) (Func.ntmps Try.f102) [.tmp 2, .tmp 3] (bodyOf Try.f102) [.sl true 3 (.int .i64)] [] [.sl false 3 (.int .i64), .bool] v w K := by
  rintro ⟨x0, _⟩ _
  kernel_rfl
theorem good_spec_l5Search {R : Type} (k : Nat) : Good tyE.P 102 false (F_spec_l5Search (R := R) k) :=
  fn_good tyE_ok (tab_ok (hT_spec_l5Search k)) A_spec_l5Search (nats []) (fn := Try.f102) (c := bodyOf Try.f102) (rs := [.tmp 2, .tmp 3]) (by kernel_rfl) (by kernel_rfl) (by kernel_rfl) (by kernel_rfl) (L := L_spec_l5Search k) (loops_one (R := R) (by kernel_rfl) (lo_spec_l5Search_5 k)) [.sl true 3 (.int .i64)] [] [.sl false 3 (.int .i64), .bool] (g_spec_l5Search k) fun v w K r h => hg_spec_l5Search k K v w ▸ h


/-! "loop.example/localglobal/spec.l5Three" -/
noncomputable def f_spec_l5Three {R : Type} (k : Nat) (a0 : List Int) (K : List Int → Bool → Option R) : Option R :=
  f_spec_l5Normal k a0 (fun r1 r2 => f_spec_l5Search k r1 (fun r3 r4 => cond (!(r4)) (K [] false) (cond (decide (0 ≤ 0) && decide (0 < ((r2).length : Int))) (cond (decide (0 ≤ 0) && decide (0 < ((r3).length : Int))) (cond (decide (0 ≤ 1) && decide (1 < ((r2).length : Int))) (cond (decide (0 ≤ 1) && decide (1 < ((r3).length : Int))) (cond (decide (0 ≤ 2) && decide (2 < ((r2).length : Int))) (cond (decide (0 ≤ 2) && decide (2 < ((r3).length : Int))) (f_spec_l5Plain k [(IntKind.wrap .i64 ((List.getD r2 (Int.toNat 0) 0) * (List.getD r3 (Int.toNat 0) 0))), (IntKind.wrap .i64 ((List.getD r2 (Int.toNat 1) 0) * (List.getD r3 (Int.toNat 1) 0))), (IntKind.wrap .i64 ((List.getD r2 (Int.toNat 2) 0) * (List.getD r3 (Int.toNat 2) 0)))] (fun r5 => K r5 true)) none) none) none) none) none) none)))


noncomputable def g_spec_l5Three {R : Type} (k : Nat) (v : HT [.sl true 3 (.int .i64)]) (w : HO []) (K : List SV → List Ob → Option R) : Option R := f_spec_l5Three k v.1 (fun r0 r1 => K [.sl false 3 (.int .i64) r0, .bool r1] [])
noncomputable def F_spec_l5Three {R : Type} (k : Nat) : CF R := wrapF [.sl true 3 (.int .i64)] [] (g_spec_l5Three k)
noncomputable def A_spec_l5Three : Ann := { pre := nats [], cut := look [], frz := fun i => match look [] i with | some l => l | none => [], fz := nats [], out := outOf [] (some [2, 3]) }
noncomputable def T_spec_l5Three {R : Type} (k : Nat) : List (Nat × (Bool × CF R)) := [(101, (false, (F_spec_l5Normal k))), (85, (false, (F_spec_l5Plain k))), (102, (false, (F_spec_l5Search k)))]
noncomputable def L_spec_l5Three {R : Type} (k : Nat) (c : Code) (s : St) (K : Exit → St → Option R) : Option R := none
theorem hT_spec_l5Three {R : Type} (k : Nat) : TabOk tyE.P (T_spec_l5Three (R := R) k) := ⟨(good_spec_l5Normal k), (good_spec_l5Plain k), (good_spec_l5Search k), trivial⟩
theorem hg_spec_l5Three {R : Type} (k : Nat) (K : List SV → List Ob → Option R) : ∀ v w, g_spec_l5Three k v w K = runF (look (T_spec_l5Three k)) tyE A_spec_l5Three (nats []) (L_spec_l5Three k) (Func.ntmps Try.f86) [.tmp 2, .tmp 3] (bodyOf Try.f86) [.sl true 3 (.int .i64)] [] [.sl false 3 (.int .i64), .bool] v w K := by
  rintro ⟨x0, _⟩ _
  kernel_rfl
theorem good_spec_l5Three {R : Type} (k : Nat) : Good tyE.P 86 false (F_spec_l5Three (R := R) k) :=
  fn_good tyE_ok (tab_ok (hT_spec_l5Three k)) A_spec_l5Three (nats []) (fn := Try.f86) (c := bodyOf Try.f86) (rs := [.tmp 2, .tmp 3]) (by kernel_rfl) (by kernel_rfl) (by kernel_rfl) (by kernel_rfl) (L := L_spec_l5Three k) (loops_nil (R := R) (by kernel_rfl)) [.sl true 3 (.int .i64)] [] [.sl false 3 (.int .i64), .bool] (g_spec_l5Three k) fun v w K r h => hg_spec_l5Three k K v w ▸ h


/-! "loop.example/localglobal/spec.l5Four" -/
noncomputable def l_spec_l5Four_5 {R : Type} (k : Nat) : Nat → List Int → Int → Int → (List Int → Bool → Option R) → (List Int → Int → Option R) → Option R
  | 0, _, _, _, _, _ => none
  | n + 1, v3, v4, v5, K0, K1 => cond (decide (v5 ≤ 3)) (cond (decide (v4 = 0)) (cond (decide (v5 = 0)) (l_spec_l5Four_5 k n v3 v4 (IntKind.wrap .i64 (v5 + 1)) K0 K1) (cond (decide (0 ≤ 0) && decide (0 < ((v3).length : Int))) (cond (decide (0 ≤ 1) && decide (1 < ((v3).length : Int))) (cond (decide ((IntKind.wrap .i64 ((IntKind.wrap .i64 ((IntKind.wrap .i64 ((List.getD v3 (Int.toNat 0) 0) * v4)) * v4)) + (IntKind.wrap .i64 ((IntKind.wrap .i64 ((List.getD v3 (Int.toNat 1) 0) * v5)) * v5)))) = 0)) (f_spec_l5Plain k [v4, v5, 0, 0] (fun r6 => K0 r6 true)) (f_spec_l1Core k (IntKind.wrap .i64 ((IntKind.wrap .i64 ((IntKind.wrap .i64 ((List.getD v3 (Int.toNat 0) 0) * v4)) * v4)) + (IntKind.wrap .i64 ((IntKind.wrap .i64 ((List.getD v3 (Int.toNat 1) 0) * v5)) * v5)))) (fun r7 r8 => f_spec_l1Size k r7 (fun r9 => cond (decide (30 < r9)) (l_spec_l5Four_5 k n v3 v4 (IntKind.wrap .i64 (v5 + 1)) K0 K1) (cond (decide (0 ≤ 2) && decide (2 < ((v3).length : Int))) (cond (decide (0 ≤ 3) && decide (3 < ((v3).length : Int))) (f_spec_l5Three k [(List.getD v3 (Int.toNat 2) 0), (List.getD v3 (Int.toNat 3) 0), r7] (fun r10 r11 => cond (r11) (cond (decide (0 ≤ 2) && decide (2 < ((r10).length : Int))) (cond (decide (0 ≤ 2) && decide (2 < ((r10).length : Int))) (cond (decide (0 ≤ 0) && decide (0 < ((r10).length : Int))) (cond (decide (0 ≤ 1) && decide (1 < ((r10).length : Int))) (f_spec_l5Plain k [(IntKind.wrap .i64 (v4 * (List.getD r10 (Int.toNat 2) 0))), (IntKind.wrap .i64 (v5 * (List.getD r10 (Int.toNat 2) 0))), (IntKind.wrap .i64 (r8 * (List.getD r10 (Int.toNat 0) 0))), (IntKind.wrap .i64 (r8 * (List.getD r10 (Int.toNat 1) 0)))] (fun r12 => K0 r12 true)) none) none) none) none) (l_spec_l5Four_5 k n v3 v4 (IntKind.wrap .i64 (v5 + 1)) K0 K1))) none) none))))) none) none)) (cond (decide (0 ≤ 0) && decide (0 < ((v3).length : Int))) (cond (decide (0 ≤ 1) && decide (1 < ((v3).length : Int))) (cond (decide ((IntKind.wrap .i64 ((IntKind.wrap .i64 ((IntKind.wrap .i64 ((List.getD v3 (Int.toNat 0) 0) * v4)) * v4)) + (IntKind.wrap .i64 ((IntKind.wrap .i64 ((List.getD v3 (Int.toNat 1) 0) * v5)) * v5)))) = 0)) (f_spec_l5Plain k [v4, v5, 0, 0] (fun r13 => K0 r13 true)) (f_spec_l1Core k (IntKind.wrap .i64 ((IntKind.wrap .i64 ((IntKind.wrap .i64 ((List.getD v3 (Int.toNat 0) 0) * v4)) * v4)) + (IntKind.wrap .i64 ((IntKind.wrap .i64 ((List.getD v3 (Int.toNat 1) 0) * v5)) * v5)))) (fun r14 r15 => f_spec_l1Size k r14 (fun r16 => cond (decide (30 < r16)) (l_spec_l5Four_5 k n v3 v4 (IntKind.wrap .i64 (v5 + 1)) K0 K1) (cond (decide (0 ≤ 2) && decide (2 < ((v3).length : Int))) (cond (decide (0 ≤ 3) && decide (3 < ((v3).length : Int))) (f_spec_l5Three k [(List.getD v3 (Int.toNat 2) 0), (List.getD v3 (Int.toNat 3) 0), r14] (fun r17 r18 => cond (r18) (cond (decide (0 ≤ 2) && decide (2 < ((r17).length : Int))) (cond (decide (0 ≤ 2) && decide (2 < ((r17).length : Int))) (cond (decide (0 ≤ 0) && decide (0 < ((r17).length : Int))) (cond (decide (0 ≤ 1) && decide (1 < ((r17).length : Int))) (f_spec_l5Plain k [(IntKind.wrap .i64 (v4 * (List.getD r17 (Int.toNat 2) 0))), (IntKind.wrap .i64 (v5 * (List.getD r17 (Int.toNat 2) 0))), (IntKind.wrap .i64 (r15 * (List.getD r17 (Int.toNat 0) 0))), (IntKind.wrap .i64 (r15 * (List.getD r17 (Int.toNat 1) 0)))] (fun r19 => K0 r19 true)) none) none) none) none) (l_spec_l5Four_5 k n v3 v4 (IntKind.wrap .i64 (v5 + 1)) K0 K1))) none) none))))) none) none)) (K1 v3 v4)

noncomputable def l_spec_l5Four_2 {R : Type} (k : Nat) : Nat → List Int → Int → (List Int → Bool → Option R) → (Option R) → Option R
  | 0, _, _, _, _ => none
  | n + 1, v1, v2, K0, K1 => cond (decide (v2 ≤ 3)) (l_spec_l5Four_5 k k v1 v2 0 (fun y20 y21 => K0 y20 y21) (fun y22 y23 => l_spec_l5Four_2 k n y22 (IntKind.wrap .i64 (y23 + 1)) K0 K1)) (K1)

noncomputable def f_spec_l5Four {R : Type} (k : Nat) (a0 : List Int) (K : List Int → Bool → Option R) : Option R :=
  l_spec_l5Four_2 k k a0 0 (fun y24 y25 => K y24 y25) (K [] false)


noncomputable def g_spec_l5Four {R : Type} (k : Nat) (v : HT [.sl true 3 (.int .i64)]) (w : HO []) (K : List SV → List Ob → Option R) : Option R := f_spec_l5Four k v.1 (fun r0 r1 => K [.sl false 3 (.int .i64) r0, .bool r1] [])
noncomputable def F_spec_l5Four {R : Type} (k : Nat) : CF R := wrapF [.sl true 3 (.int .i64)] [] (g_spec_l5Four k)
noncomputable def A_spec_l5Four : Ann := { pre := nats [], cut := look [(2, [0, 4]), (5, [0, 4, 5])], frz := fun i => match look [] i with | some l => l | none => [], fz := nats [], out := outOf [(0, []), (2, [0, 4])] (some [2, 3]) }
noncomputable def T_spec_l5Four {R : Type} (k : Nat) : List (Nat × (Bool × CF R)) := [(76, (false, (F_spec_l1Core k))), (51, (false, (F_spec_l1Size k))), (85, (false, (F_spec_l5Plain k))), (86, (false, (F_spec_l5Three k)))]
noncomputable abbrev h_spec_l5Four_2 : Shape := ⟨[(0, .sl true 3 (.int .i64)), (4, .int .i64)], []⟩
noncomputable def lf_spec_l5Four_2 {R : Type} (k : Nat) (n : Nat) (v : h_spec_l5Four_2.T) (K : Exit → St → Option R) : Option R := l_spec_l5Four_2 k n v.1.1 v.1.2.1 (fun y0 y1 => K (.ret) ⟨[(2, .s (.sl false 3 (.int .i64) y0)), (3, .s (.bool y1))], []⟩) (K (.exit 0) ⟨[], []⟩)
noncomputable abbrev h_spec_l5Four_5 : Shape := ⟨[(0, .sl true 3 (.int .i64)), (4, .int .i64), (5, .int .i64)], []⟩
noncomputable def lf_spec_l5Four_5 {R : Type} (k : Nat) (n : Nat) (v : h_spec_l5Four_5.T) (K : Exit → St → Option R) : Option R := l_spec_l5Four_5 k n v.1.1 v.1.2.1 v.1.2.2.1 (fun y0 y1 => K (.ret) ⟨[(2, .s (.sl false 3 (.int .i64) y0)), (3, .s (.bool y1))], []⟩) (fun y0 y1 => K (.exit 2) ⟨[(0, .s (.sl true 3 (.int .i64) y0)), (4, .s (.int .i64 y1))], []⟩)
noncomputable def L_spec_l5Four {R : Type} (k : Nat) (c : Code) (s : St) (K : Exit → St → Option R) : Option R := cond (Nat.beq (firstReg c) 5) ((h_spec_l5Four_5.dec (cutAt A_spec_l5Four c s)).bind fun v => lf_spec_l5Four_5 k k v K) (cond (Nat.beq (firstReg c) 2) ((h_spec_l5Four_2.dec (cutAt A_spec_l5Four c s)).bind fun v => lf_spec_l5Four_2 k k v K) (none))
theorem hT_spec_l5Four {R : Type} (k : Nat) : TabOk tyE.P (T_spec_l5Four (R := R) k) := ⟨(good_spec_l1Core k), (good_spec_l1Size k), (good_spec_l5Plain k), (good_spec_l5Three k), trivial⟩
noncomputable def b_spec_l5Four_2 : Code := nthLoop (bodyOf Try.f87) 0
noncomputable def b_spec_l5Four_5 : Code := nthLoop (b_spec_l5Four_2) 0
theorem hs_spec_l5Four_5 {R : Type} (k : Nat) (n : Nat) (K : Exit → St → Option R) : ∀ v, lf_spec_l5Four_5 k (n + 1) v K = evk (look (T_spec_l5Four k)) tyE A_spec_l5Four (Func.ntmps Try.f87) (drawn (look (T_spec_l5Four k)) tyE A_spec_l5Four (nats []) (Func.ntmps Try.f87)) (L_spec_l5Four k) b_spec_l5Four_5 (h_spec_l5Four_5.enc v) (loopK A_spec_l5Four b_spec_l5Four_5 h_spec_l5Four_5.dec (lf_spec_l5Four_5 k) n K) := by
  rintro ⟨⟨x0, x1, x2, _⟩, _⟩
  kernel_rfl
theorem lo_spec_l5Four_5 {R : Type} (k : Nat) : LoopOk tyE.P (Func.ntmps Try.f87) (L_spec_l5Four (R := R) k) b_spec_l5Four_5 :=
  fn_loop tyE_ok (tab_ok (hT_spec_l5Four k)) A_spec_l5Four (nats []) (loops_nil (R := R) (by kernel_rfl)) h_spec_l5Four_5 (lf_spec_l5Four_5 k) k (fun s K => by kernel_rfl) (fun v K => by kernel_rfl) fun n v K r h => hs_spec_l5Four_5 k n K v ▸ h
theorem hs_spec_l5Four_2 {R : Type} (k : Nat) (n : Nat) (K : Exit → St → Option R) : ∀ v, lf_spec_l5Four_2 k (n + 1) v K = evk (look (T_spec_l5Four k)) tyE A_spec_l5Four (Func.ntmps Try.f87) (drawn (look (T_spec_l5Four k)) tyE A_spec_l5Four (nats []) (Func.ntmps Try.f87)) (L_spec_l5Four k) b_spec_l5Four_2 (h_spec_l5Four_2.enc v) (loopK A_spec_l5Four b_spec_l5Four_2 h_spec_l5Four_2.dec (lf_spec_l5Four_2 k) n K) := by
  rintro ⟨⟨x0, x1, _⟩, _⟩
  kernel_rfl
theorem lo_spec_l5Four_2 {R : Type} (k : Nat) : LoopOk tyE.P (Func.ntmps Try.f87) (L_spec_l5Four (R := R) k) b_spec_l5Four_2 :=
  fn_loop tyE_ok (tab_ok (hT_spec_l5Four k)) A_spec_l5Four (nats []) (loops_one (R := R) (by kernel_rfl) (lo_spec_l5Four_5 k)) h_spec_l5Four_2 (lf_spec_l5Four_2 k) k (fun s K => by kernel_rfl) (fun v K => by kernel_rfl) fun n v K r h => hs_spec_l5Four_2 k n K v ▸ h
theorem hg_spec_l5Four {R : Type} (k : Nat) (K : List SV → List Ob → Option R) : ∀ v w, g_spec_l5Four k v w K = runF (look (T_spec_l5Four k)) tyE A_spec_l5Four (nats []) (L_spec_l5Four k) (Func.ntmps Try.f87) [.tmp 2, .tmp 3] (bodyOf Try.f87) [.sl true 3 (.int .i64)] [] [.sl false 3 (.int .i64), .bool] v w K := by
  rintro ⟨x0, _⟩ _
  kernel_rfl
theorem good_spec_l5Four {R : Type} (k : Nat) : Good tyE.P 87 false (F_spec_l5Four (R := R) k) :=
  fn_good tyE_ok (tab_ok (hT_spec_l5Four k)) A_spec_l5Four (nats []) (fn := Try.f87) (c := bodyOf Try.f87) (rs := [.tmp 2, .tmp 3]) (by kernel_rfl) (by kernel_rfl) (by kernel_rfl) (by kernel_rfl) (L := L_spec_l5Four k) (loops_one (R := R) (by kernel_rfl) (lo_spec_l5Four_2 k)) [.sl true 3 (.int .i64)] [] [.sl false 3 (.int .i64), .bool] (g_spec_l5Four k) fun v w K r h => hg_spec_l5Four k K v w ▸ h


/-! "loop.example/localglobal/spec.ZeroFind" -/
noncomputable def f_spec_ZeroFind {R : Type} (k : Nat) (a0 : List Int) (K : List Int → Bool → Option R) : Option R :=
  f_spec_FormValid k a0 (fun r1 => cond (!(r1)) (K [] false) (cond (decide ((a0.length : Int) = 2)) (cond (decide (0 ≤ 0) && decide (0 < ((a0).length : Int))) (f_spec_l1Core k (List.getD a0 (Int.toNat 0) 0) (fun r2 r3 => cond (decide (0 ≤ 1) && decide (1 < ((a0).length : Int))) (f_spec_l1Core k (List.getD a0 (Int.toNat 1) 0) (fun r4 r5 => cond (decide ((IntKind.wrap .i64 (r2 + r4)) = 0)) (f_spec_l5Plain k [r5, r3] (fun r6 => K r6 true)) (K [] false))) none)) none) (cond (decide ((a0.length : Int) = 3)) (f_spec_l5Three k a0 (fun r7 r8 => K r7 r8)) (cond (decide ((a0.length : Int) = 4)) (f_spec_l5Four k a0 (fun r9 r10 => K r9 r10)) (K [] false)))))


noncomputable def g_spec_ZeroFind {R : Type} (k : Nat) (v : HT [.sl true 3 (.int .i64)]) (w : HO []) (K : List SV → List Ob → Option R) : Option R := f_spec_ZeroFind k v.1 (fun r0 r1 => K [.sl false 3 (.int .i64) r0, .bool r1] [])
noncomputable def F_spec_ZeroFind {R : Type} (k : Nat) : CF R := wrapF [.sl true 3 (.int .i64)] [] (g_spec_ZeroFind k)
noncomputable def A_spec_ZeroFind : Ann := { pre := nats [], cut := look [], frz := fun i => match look [] i with | some l => l | none => [], fz := nats [], out := outOf [] (some [2, 3]) }
noncomputable def T_spec_ZeroFind {R : Type} (k : Nat) : List (Nat × (Bool × CF R)) := [(37, (false, (F_spec_FormValid k))), (76, (false, (F_spec_l1Core k))), (87, (false, (F_spec_l5Four k))), (85, (false, (F_spec_l5Plain k))), (86, (false, (F_spec_l5Three k)))]
noncomputable def L_spec_ZeroFind {R : Type} (k : Nat) (c : Code) (s : St) (K : Exit → St → Option R) : Option R := none
theorem hT_spec_ZeroFind {R : Type} (k : Nat) : TabOk tyE.P (T_spec_ZeroFind (R := R) k) := ⟨(good_spec_FormValid k), (good_spec_l1Core k), (good_spec_l5Four k), (good_spec_l5Plain k), (good_spec_l5Three k), trivial⟩
theorem hg_spec_ZeroFind {R : Type} (k : Nat) (K : List SV → List Ob → Option R) : ∀ v w, g_spec_ZeroFind k v w K = runF (look (T_spec_ZeroFind k)) tyE A_spec_ZeroFind (nats []) (L_spec_ZeroFind k) (Func.ntmps Try.f63) [.tmp 2, .tmp 3] (bodyOf Try.f63) [.sl true 3 (.int .i64)] [] [.sl false 3 (.int .i64), .bool] v w K := by
  rintro ⟨x0, _⟩ _
  kernel_rfl
theorem good_spec_ZeroFind {R : Type} (k : Nat) : Good tyE.P 63 false (F_spec_ZeroFind (R := R) k) :=
  fn_good tyE_ok (tab_ok (hT_spec_ZeroFind k)) A_spec_ZeroFind (nats []) (fn := Try.f63) (c := bodyOf Try.f63) (rs := [.tmp 2, .tmp 3]) (by kernel_rfl) (by kernel_rfl) (by kernel_rfl) (by kernel_rfl) (L := L_spec_ZeroFind k) (loops_nil (R := R) (by kernel_rfl)) [.sl true 3 (.int .i64)] [] [.sl false 3 (.int .i64), .bool] (g_spec_ZeroFind k) fun v w K r h => hg_spec_ZeroFind k K v w ▸ h


/-! "loop.example/localglobal/spec.l6kAxis" -/
noncomputable def l_spec_l6kAxis_2 {R : Type} (k : Nat) : Nat → List Int → Int → (Int → Option R) → Option R
  | 0, _, _, _ => none
  | n + 1, v1, v2, K0 => cond (decide (0 ≤ v2) && decide (v2 < ((v1).length : Int))) (cond (decide ((List.getD v1 (Int.toNat v2) 0) = 0)) (l_spec_l6kAxis_2 k n v1 (IntKind.wrap .i64 (v2 + 1)) K0) (K0 v2)) none

noncomputable def f_spec_l6kAxis {R : Type} (k : Nat) (a0 : List Int) (K : Int → Option R) : Option R :=
  l_spec_l6kAxis_2 k k a0 0 (fun y3 => K y3)


noncomputable def g_spec_l6kAxis {R : Type} (k : Nat) (v : HT [.sl true 3 (.int .i64)]) (w : HO []) (K : List SV → List Ob → Option R) : Option R := f_spec_l6kAxis k v.1 (fun r0 => K [.int .i64 r0] [])
noncomputable def F_spec_l6kAxis {R : Type} (k : Nat) : CF R := wrapF [.sl true 3 (.int .i64)] [] (g_spec_l6kAxis k)
noncomputable def A_spec_l6kAxis : Ann := { pre := nats [], cut := look [(2, [0, 3])], frz := fun i => match look [] i with | some l => l | none => [], fz := nats [], out := outOf [(0, [3])] (some [2]) }
noncomputable def T_spec_l6kAxis {R : Type} (k : Nat) : List (Nat × (Bool × CF R)) := []
noncomputable abbrev h_spec_l6kAxis_2 : Shape := ⟨[(0, .sl true 3 (.int .i64)), (3, .int .i64)], []⟩
noncomputable def lf_spec_l6kAxis_2 {R : Type} (k : Nat) (n : Nat) (v : h_spec_l6kAxis_2.T) (K : Exit → St → Option R) : Option R := l_spec_l6kAxis_2 k n v.1.1 v.1.2.1 (fun y0 => K (.exit 0) ⟨[(3, .s (.int .i64 y0))], []⟩)
noncomputable def L_spec_l6kAxis {R : Type} (k : Nat) (c : Code) (s : St) (K : Exit → St → Option R) : Option R := cond (Nat.beq (firstReg c) 2) ((h_spec_l6kAxis_2.dec (cutAt A_spec_l6kAxis c s)).bind fun v => lf_spec_l6kAxis_2 k k v K) (none)
theorem hT_spec_l6kAxis {R : Type} (k : Nat) : TabOk tyE.P (T_spec_l6kAxis (R := R) k) := trivial
noncomputable def b_spec_l6kAxis_2 : Code := nthLoop (bodyOf Try.f64) 0
theorem hs_spec_l6kAxis_2 {R : Type} (k : Nat) (n : Nat) (K : Exit → St → Option R) : ∀ v, lf_spec_l6kAxis_2 k (n + 1) v K = evk (look (T_spec_l6kAxis k)) tyE A_spec_l6kAxis (Func.ntmps Try.f64) (drawn (look (T_spec_l6kAxis k)) tyE A_spec_l6kAxis (nats []) (Func.ntmps Try.f64)) (L_spec_l6kAxis k) b_spec_l6kAxis_2 (h_spec_l6kAxis_2.enc v) (loopK A_spec_l6kAxis b_spec_l6kAxis_2 h_spec_l6kAxis_2.dec (lf_spec_l6kAxis_2 k) n K) := by
  rintro ⟨⟨x0, x1, _⟩, _⟩
  kernel_rfl
theorem lo_spec_l6kAxis_2 {R : Type} (k : Nat) : LoopOk tyE.P (Func.ntmps Try.f64) (L_spec_l6kAxis (R := R) k) b_spec_l6kAxis_2 :=
  fn_loop tyE_ok (tab_ok (hT_spec_l6kAxis k)) A_spec_l6kAxis (nats []) (loops_nil (R := R) (by kernel_rfl)) h_spec_l6kAxis_2 (lf_spec_l6kAxis_2 k) k (fun s K => by kernel_rfl) (fun v K => by kernel_rfl) fun n v K r h => hs_spec_l6kAxis_2 k n K v ▸ h
theorem hg_spec_l6kAxis {R : Type} (k : Nat) (K : List SV → List Ob → Option R) : ∀ v w, g_spec_l6kAxis k v w K = runF (look (T_spec_l6kAxis k)) tyE A_spec_l6kAxis (nats []) (L_spec_l6kAxis k) (Func.ntmps Try.f64) [.tmp 2] (bodyOf Try.f64) [.sl true 3 (.int .i64)] [] [.int .i64] v w K := by
  rintro ⟨x0, _⟩ _
  kernel_rfl
theorem good_spec_l6kAxis {R : Type} (k : Nat) : Good tyE.P 64 false (F_spec_l6kAxis (R := R) k) :=
  fn_good tyE_ok (tab_ok (hT_spec_l6kAxis k)) A_spec_l6kAxis (nats []) (fn := Try.f64) (c := bodyOf Try.f64) (rs := [.tmp 2]) (by kernel_rfl) (by kernel_rfl) (by kernel_rfl) (by kernel_rfl) (L := L_spec_l6kAxis k) (loops_one (R := R) (by kernel_rfl) (lo_spec_l6kAxis_2 k)) [.sl true 3 (.int .i64)] [] [.int .i64] (g_spec_l6kAxis k) fun v w K r h => hg_spec_l6kAxis k K v w ▸ h


/-! "loop.example/localglobal/spec.l7Low" -/
noncomputable def l_spec_l7Low_6 {R : Type} (k : Nat) : Nat → List (List Int) → Int → Int → Int → Int → Int → (List (List Int) → Int → Int → Int → Int → Option R) → Option R
  | 0, _, _, _, _, _, _, _ => none
  | n + 1, v6, v7, v8, v9, v10, v11, K0 => cond (decide (0 ≤ v9) && decide (v9 < ((v6).length : Int))) (cond (decide (v10 < ((List.getD v6 (Int.toNat v9) []).length : Int))) (cond (decide (0 ≤ v9) && decide (v9 < ((v6).length : Int))) (cond (decide (0 ≤ v10) && decide (v10 < (((List.getD v6 (Int.toNat v9) [])).length : Int))) (f_spec_l1Gcd k v8 (List.getD (List.getD v6 (Int.toNat v9) []) (Int.toNat v10) 0) (fun r12 => l_spec_l7Low_6 k n v6 v7 r12 v9 (IntKind.wrap .i64 (v10 + 1)) v11 K0)) none) none) (K0 v6 v7 v8 v9 v11)) none

noncomputable def l_spec_l7Low_3 {R : Type} (k : Nat) : Nat → List (List Int) → Int → Int → Int → Int → (List (List Int) → Int → Int → Int → Option R) → Option R
  | 0, _, _, _, _, _, _ => none
  | n + 1, v1, v2, v3, v4, v5, K0 => cond (decide (v4 < (v1.length : Int))) (l_spec_l7Low_6 k k v1 v2 v3 v4 0 v5 (fun y13 y14 y15 y16 y17 => l_spec_l7Low_3 k n y13 y14 y15 (IntKind.wrap .i64 (y16 + 1)) y17 K0)) (K0 v1 v2 v3 v5)

noncomputable def l_spec_l7Low_17 {R : Type} (k : Nat) : Nat → List (List Int) → Int → Int → Int → Int → List (List Int) → Int → List Int → (List (List Int) → Int → Int → Int → List (List Int) → Int → List Int → Option R) → Option R
  | 0, _, _, _, _, _, _, _, _, _ => none
  | n + 1, v28, v29, v30, v31, v32, v33, v34, v35, K0 => cond (decide (0 ≤ v30) && decide (v30 < ((v28).length : Int))) (cond (decide (v31 < ((List.getD v28 (Int.toNat v30) []).length : Int))) (cond (decide (0 ≤ v30) && decide (v30 < ((v28).length : Int))) (cond (decide (0 ≤ v31) && decide (v31 < (((List.getD v28 (Int.toNat v30) [])).length : Int))) (cond (!decide (v29 = 0)) (cond (Nat.ble (v35.length + 1) LIM) (l_spec_l7Low_17 k n v28 v29 v30 (IntKind.wrap .i64 (v31 + 1)) v32 v33 v34 (v35 ++ [(IntKind.wrap .i64 (Int.tdiv (List.getD (List.getD v28 (Int.toNat v30) []) (Int.toNat v31) 0) v29))]) K0) none) none) none) none) (K0 v28 v29 v30 v32 v33 v34 v35)) none

noncomputable def l_spec_l7Low_13 {R : Type} (k : Nat) : Nat → List (List Int) → Int → Int → Int → List (List Int) → Int → (Int → List (List Int) → Int → Option R) → Option R
  | 0, _, _, _, _, _, _, _ => none
  | n + 1, v22, v23, v24, v25, v26, v27, K0 => cond (decide (v24 < (v22.length : Int))) (l_spec_l7Low_17 k k v22 v23 v24 0 v25 v26 v27 [] (fun y36 y37 y38 y39 y40 y41 y42 => cond (!isNe y40 && (true && Nat.ble 1 LIM)) (l_spec_l7Low_13 k n y36 y37 (IntKind.wrap .i64 (y38 + 1)) y39 [y42] y41 K0) none)) (K0 v25 v26 v27)

noncomputable def f_spec_l7Low {R : Type} (k : Nat) (a0 : List (List Int)) (a1 : Int) (K : List (List Int) → Int → Option R) : Option R :=
  l_spec_l7Low_3 k k a0 a1 a1 0 0 (fun y18 y19 y20 y21 => cond (decide (y19 < 0)) (cond (!decide ((IntKind.wrap .i64 (0 - y20)) = 0)) (l_spec_l7Low_13 k k y18 (IntKind.wrap .i64 (0 - y20)) 0 y21 [] (IntKind.wrap .i64 (Int.tdiv y19 (IntKind.wrap .i64 (0 - y20)))) (fun y43 y44 y45 => K y44 y45)) none) (cond (!decide (y20 = 0)) (l_spec_l7Low_13 k k y18 y20 0 y21 [] (IntKind.wrap .i64 (Int.tdiv y19 y20)) (fun y46 y47 y48 => K y47 y48)) none))


noncomputable def g_spec_l7Low {R : Type} (k : Nat) (v : HT [.rows true 3, .int .i64]) (w : HO []) (K : List SV → List Ob → Option R) : Option R := f_spec_l7Low k v.1 v.2.1 (fun r0 r1 => K [.mark, .sh false (.rows 3 r0), .int .i64 r1] [])
noncomputable def F_spec_l7Low {R : Type} (k : Nat) : CF R := wrapF [.rows true 3, .int .i64] [] (g_spec_l7Low k)
noncomputable def A_spec_l7Low : Ann := { pre := nats [], cut := look [(3, [0, 1, 4, 5, 6]), (6, [0, 1, 4, 5, 6, 7]), (13, [0, 4, 5, 8, 9]), (17, [0, 4, 5, 8, 9, 10, 11])], frz := fun i => match look [(20, [10])] i with | some l => l | none => [], fz := nats [], out := outOf [(0, [0, 1, 4, 5]), (2, [0, 1, 4, 5, 6]), (4, [4, 8]), (6, [0, 4, 5, 8, 9, 10])] (some [4]) }
noncomputable def T_spec_l7Low {R : Type} (k : Nat) : List (Nat × (Bool × CF R)) := [(100, (false, (F_spec_l1Gcd k)))]
noncomputable abbrev h_spec_l7Low_13 : Shape := ⟨[(0, .rows true 3), (4, .ref 1004 0), (5, .int .i64), (8, .ref 1008 0), (9, .int .i64)], [(1004, .cells 76 [.nil, .int .i64]), (1008, .cells 76 [.rows false 3, .int .i64])]⟩
noncomputable def lf_spec_l7Low_13 {R : Type} (k : Nat) (n : Nat) (v : h_spec_l7Low_13.T) (K : Exit → St → Option R) : Option R := l_spec_l7Low_13 k n v.1.1 v.1.2.2.1 v.1.2.2.2.2.1 v.2.1.2.1 v.2.2.1.1 v.2.2.1.2.1 (fun y0 y1 y2 => K (.exit 4) ⟨[(4, .s (.ref 1004 0)), (8, .s (.ref 1008 0))], [(1004, .cells 76 [.nil, .int .i64 y0]), (1008, .cells 76 [.sh false (.rows 3 y1), .int .i64 y2])]⟩)
noncomputable abbrev h_spec_l7Low_17 : Shape := ⟨[(0, .rows true 3), (4, .ref 1004 0), (5, .int .i64), (8, .ref 1008 0), (9, .int .i64), (10, .slo 1052), (11, .int .i64)], [(1004, .cells 76 [.nil, .int .i64]), (1008, .cells 76 [.rows false 3, .int .i64]), (1052, .arr 3 (.int .i64))]⟩
noncomputable def lf_spec_l7Low_17 {R : Type} (k : Nat) (n : Nat) (v : h_spec_l7Low_17.T) (K : Exit → St → Option R) : Option R := l_spec_l7Low_17 k n v.1.1 v.1.2.2.1 v.1.2.2.2.2.1 v.1.2.2.2.2.2.2.1 v.2.1.2.1 v.2.2.1.1 v.2.2.1.2.1 v.2.2.2.1 (fun y0 y1 y2 y3 y4 y5 y6 => K (.exit 6) ⟨[(0, .s (.sh true (.rows 3 y0))), (4, .s (.ref 1004 0)), (5, .s (.int .i64 y1)), (8, .s (.ref 1008 0)), (9, .s (.int .i64 y2)), (10, .s (.slo 1052))], [(1004, .cells 76 [.nil, .int .i64 y3]), (1008, .cells 76 [.sh false (.rows 3 y4), .int .i64 y5]), (1052, .arr 3 (.int .i64) y6)]⟩)
noncomputable abbrev h_spec_l7Low_3 : Shape := ⟨[(0, .rows true 3), (1, .int .i64), (4, .ref 1004 0), (5, .int .i64), (6, .int .i64)], [(1004, .cells 76 [.nil, .int .i64])]⟩
noncomputable def lf_spec_l7Low_3 {R : Type} (k : Nat) (n : Nat) (v : h_spec_l7Low_3.T) (K : Exit → St → Option R) : Option R := l_spec_l7Low_3 k n v.1.1 v.1.2.1 v.1.2.2.2.1 v.1.2.2.2.2.1 v.2.1.2.1 (fun y0 y1 y2 y3 => K (.exit 0) ⟨[(0, .s (.sh true (.rows 3 y0))), (1, .s (.int .i64 y1)), (4, .s (.ref 1004 0)), (5, .s (.int .i64 y2))], [(1004, .cells 76 [.nil, .int .i64 y3])]⟩)
noncomputable abbrev h_spec_l7Low_6 : Shape := ⟨[(0, .rows true 3), (1, .int .i64), (4, .ref 1004 0), (5, .int .i64), (6, .int .i64), (7, .int .i64)], [(1004, .cells 76 [.nil, .int .i64])]⟩
noncomputable def lf_spec_l7Low_6 {R : Type} (k : Nat) (n : Nat) (v : h_spec_l7Low_6.T) (K : Exit → St → Option R) : Option R := l_spec_l7Low_6 k n v.1.1 v.1.2.1 v.1.2.2.2.1 v.1.2.2.2.2.1 v.1.2.2.2.2.2.1 v.2.1.2.1 (fun y0 y1 y2 y3 y4 => K (.exit 2) ⟨[(0, .s (.sh true (.rows 3 y0))), (1, .s (.int .i64 y1)), (4, .s (.ref 1004 0)), (5, .s (.int .i64 y2)), (6, .s (.int .i64 y3))], [(1004, .cells 76 [.nil, .int .i64 y4])]⟩)
noncomputable def L_spec_l7Low {R : Type} (k : Nat) (c : Code) (s : St) (K : Exit → St → Option R) : Option R := cond (Nat.beq (firstReg c) 6) ((h_spec_l7Low_6.dec (cutAt A_spec_l7Low c s)).bind fun v => lf_spec_l7Low_6 k k v K) (cond (Nat.beq (firstReg c) 3) ((h_spec_l7Low_3.dec (cutAt A_spec_l7Low c s)).bind fun v => lf_spec_l7Low_3 k k v K) (cond (Nat.beq (firstReg c) 17) ((h_spec_l7Low_17.dec (cutAt A_spec_l7Low c s)).bind fun v => lf_spec_l7Low_17 k k v K) (cond (Nat.beq (firstReg c) 13) ((h_spec_l7Low_13.dec (cutAt A_spec_l7Low c s)).bind fun v => lf_spec_l7Low_13 k k v K) (none))))
theorem hT_spec_l7Low {R : Type} (k : Nat) : TabOk tyE.P (T_spec_l7Low (R := R) k) := ⟨(good_spec_l1Gcd k), trivial⟩
noncomputable def b_spec_l7Low_3 : Code := nthLoop (bodyOf Try.f88) 0
noncomputable def b_spec_l7Low_6 : Code := nthLoop (b_spec_l7Low_3) 0
theorem hs_spec_l7Low_6 {R : Type} (k : Nat) (n : Nat) (K : Exit → St → Option R) : ∀ v, lf_spec_l7Low_6 k (n + 1) v K = evk (look (T_spec_l7Low k)) tyE A_spec_l7Low (Func.ntmps Try.f88) (drawn (look (T_spec_l7Low k)) tyE A_spec_l7Low (nats []) (Func.ntmps Try.f88)) (L_spec_l7Low k) b_spec_l7Low_6 (h_spec_l7Low_6.enc v) (loopK A_spec_l7Low b_spec_l7Low_6 h_spec_l7Low_6.dec (lf_spec_l7Low_6 k) n K) := by
  rintro ⟨⟨x0, x1, _, x2, x3, x4, _⟩, ⟨⟨_, x5, _⟩, _⟩⟩
  kernel_rfl
theorem lo_spec_l7Low_6 {R : Type} (k : Nat) : LoopOk tyE.P (Func.ntmps Try.f88) (L_spec_l7Low (R := R) k) b_spec_l7Low_6 :=
  fn_loop tyE_ok (tab_ok (hT_spec_l7Low k)) A_spec_l7Low (nats []) (loops_nil (R := R) (by kernel_rfl)) h_spec_l7Low_6 (lf_spec_l7Low_6 k) k (fun s K => by kernel_rfl) (fun v K => by kernel_rfl) fun n v K r h => hs_spec_l7Low_6 k n K v ▸ h
theorem hs_spec_l7Low_3 {R : Type} (k : Nat) (n : Nat) (K : Exit → St → Option R) : ∀ v, lf_spec_l7Low_3 k (n + 1) v K = evk (look (T_spec_l7Low k)) tyE A_spec_l7Low (Func.ntmps Try.f88) (drawn (look (T_spec_l7Low k)) tyE A_spec_l7Low (nats []) (Func.ntmps Try.f88)) (L_spec_l7Low k) b_spec_l7Low_3 (h_spec_l7Low_3.enc v) (loopK A_spec_l7Low b_spec_l7Low_3 h_spec_l7Low_3.dec (lf_spec_l7Low_3 k) n K) := by
  rintro ⟨⟨x0, x1, _, x2, x3, _⟩, ⟨⟨_, x4, _⟩, _⟩⟩
  kernel_rfl
theorem lo_spec_l7Low_3 {R : Type} (k : Nat) : LoopOk tyE.P (Func.ntmps Try.f88) (L_spec_l7Low (R := R) k) b_spec_l7Low_3 :=
  fn_loop tyE_ok (tab_ok (hT_spec_l7Low k)) A_spec_l7Low (nats []) (loops_one (R := R) (by kernel_rfl) (lo_spec_l7Low_6 k)) h_spec_l7Low_3 (lf_spec_l7Low_3 k) k (fun s K => by kernel_rfl) (fun v K => by kernel_rfl) fun n v K r h => hs_spec_l7Low_3 k n K v ▸ h
noncomputable def b_spec_l7Low_13 : Code := nthLoop (bodyOf Try.f88) 1
noncomputable def b_spec_l7Low_17 : Code := nthLoop (b_spec_l7Low_13) 0
theorem hs_spec_l7Low_17 {R : Type} (k : Nat) (n : Nat) (K : Exit → St → Option R) : ∀ v, lf_spec_l7Low_17 k (n + 1) v K = evk (look (T_spec_l7Low k)) tyE A_spec_l7Low (Func.ntmps Try.f88) (drawn (look (T_spec_l7Low k)) tyE A_spec_l7Low (nats []) (Func.ntmps Try.f88)) (L_spec_l7Low k) b_spec_l7Low_17 (h_spec_l7Low_17.enc v) (loopK A_spec_l7Low b_spec_l7Low_17 h_spec_l7Low_17.dec (lf_spec_l7Low_17 k) n K) := by
  rintro ⟨⟨x0, _, x1, _, x2, _, x3, _⟩, ⟨⟨_, x4, _⟩, ⟨x5, x6, _⟩, x7, _⟩⟩
  kernel_rfl
theorem lo_spec_l7Low_17 {R : Type} (k : Nat) : LoopOk tyE.P (Func.ntmps Try.f88) (L_spec_l7Low (R := R) k) b_spec_l7Low_17 :=
  fn_loop tyE_ok (tab_ok (hT_spec_l7Low k)) A_spec_l7Low (nats []) (loops_nil (R := R) (by kernel_rfl)) h_spec_l7Low_17 (lf_spec_l7Low_17 k) k (fun s K => by kernel_rfl) (fun v K => by kernel_rfl) fun n v K r h => hs_spec_l7Low_17 k n K v ▸ h
theorem hs_spec_l7Low_13 {R : Type} (k : Nat) (n : Nat) (K : Exit → St → Option R) : ∀ v, lf_spec_l7Low_13 k (n + 1) v K = evk (look (T_spec_l7Low k)) tyE A_spec_l7Low (Func.ntmps Try.f88) (drawn (look (T_spec_l7Low k)) tyE A_spec_l7Low (nats []) (Func.ntmps Try.f88)) (L_spec_l7Low k) b_spec_l7Low_13 (h_spec_l7Low_13.enc v) (loopK A_spec_l7Low b_spec_l7Low_13 h_spec_l7Low_13.dec (lf_spec_l7Low_13 k) n K) := by
  rintro ⟨⟨x0, _, x1, _, x2, _⟩, ⟨⟨_, x3, _⟩, ⟨x4, x5, _⟩, _⟩⟩
  kernel_rfl
theorem lo_spec_l7Low_13 {R : Type} (k : Nat) : LoopOk tyE.P (Func.ntmps Try.f88) (L_spec_l7Low (R := R) k) b_spec_l7Low_13 :=
  fn_loop tyE_ok (tab_ok (hT_spec_l7Low k)) A_spec_l7Low (nats []) (loops_one (R := R) (by kernel_rfl) (lo_spec_l7Low_17 k)) h_spec_l7Low_13 (lf_spec_l7Low_13 k) k (fun s K => by kernel_rfl) (fun v K => by kernel_rfl) fun n v K r h => hs_spec_l7Low_13 k n K v ▸ h
theorem hg_spec_l7Low {R : Type} (k : Nat) (K : List SV → List Ob → Option R) : ∀ v w, g_spec_l7Low k v w K = runF (look (T_spec_l7Low k)) tyE A_spec_l7Low (nats []) (L_spec_l7Low k) (Func.ntmps Try.f88) [.cell 4 76] (bodyOf Try.f88) [.rows true 3, .int .i64] [] [.mark, .rows false 3, .int .i64] v w K := by
  rintro ⟨x0, x1, _⟩ _
  kernel_rfl
theorem good_spec_l7Low {R : Type} (k : Nat) : Good tyE.P 88 false (F_spec_l7Low (R := R) k) :=
  fn_good tyE_ok (tab_ok (hT_spec_l7Low k)) A_spec_l7Low (nats []) (fn := Try.f88) (c := bodyOf Try.f88) (rs := [.cell 4 76]) (by kernel_rfl) (by kernel_rfl) (by kernel_rfl) (by kernel_rfl) (L := L_spec_l7Low k) (loops_two (R := R) (by kernel_rfl) (lo_spec_l7Low_3 k) (lo_spec_l7Low_13 k)) [.rows true 3, .int .i64] [] [.mark, .rows false 3, .int .i64] (g_spec_l7Low k) fun v w K r h => hg_spec_l7Low k K v w ▸ h


/-! "loop.example/localglobal/spec.l9Low" -/
noncomputable def f_spec_l9Low {R : Type} (k : Nat) (a0 : List Int) (a1 : Int) (K : List Int → Int → Option R) : Option R :=
  f_spec_l7Low k [a0] a1 (fun r1 r2 => cond (decide (0 ≤ 0) && decide (0 < ((r1).length : Int))) (K (List.getD r1 (Int.toNat 0) []) r2) none)


noncomputable def g_spec_l9Low {R : Type} (k : Nat) (v : HT [.sl true 3 (.int .i64), .int .i64]) (w : HO []) (K : List SV → List Ob → Option R) : Option R := f_spec_l9Low k v.1 v.2.1 (fun r0 r1 => K [.sl false 3 (.int .i64) r0, .int .i64 r1] [])
noncomputable def F_spec_l9Low {R : Type} (k : Nat) : CF R := wrapF [.sl true 3 (.int .i64), .int .i64] [] (g_spec_l9Low k)
noncomputable def A_spec_l9Low : Ann := { pre := nats [], cut := look [], frz := fun i => match look [] i with | some l => l | none => [], fz := nats [], out := outOf [] (some [4, 5]) }
noncomputable def T_spec_l9Low {R : Type} (k : Nat) : List (Nat × (Bool × CF R)) := [(88, (false, (F_spec_l7Low k)))]
noncomputable def L_spec_l9Low {R : Type} (k : Nat) (c : Code) (s : St) (K : Exit → St → Option R) : Option R := none
theorem hT_spec_l9Low {R : Type} (k : Nat) : TabOk tyE.P (T_spec_l9Low (R := R) k) := ⟨(good_spec_l7Low k), trivial⟩
theorem hg_spec_l9Low {R : Type} (k : Nat) (K : List SV → List Ob → Option R) : ∀ v w, g_spec_l9Low k v w K = runF (look (T_spec_l9Low k)) tyE A_spec_l9Low (nats []) (L_spec_l9Low k) (Func.ntmps Try.f65) [.tmp 4, .tmp 5] (bodyOf Try.f65) [.sl true 3 (.int .i64), .int .i64] [] [.sl false 3 (.int .i64), .int .i64] v w K := by
  rintro ⟨x0, x1, _⟩ _
  kernel_rfl
theorem good_spec_l9Low {R : Type} (k : Nat) : Good tyE.P 65 false (F_spec_l9Low (R := R) k) :=
  fn_good tyE_ok (tab_ok (hT_spec_l9Low k)) A_spec_l9Low (nats []) (fn := Try.f65) (c := bodyOf Try.f65) (rs := [.tmp 4, .tmp 5]) (by kernel_rfl) (by kernel_rfl) (by kernel_rfl) (by kernel_rfl) (L := L_spec_l9Low k) (loops_nil (R := R) (by kernel_rfl)) [.sl true 3 (.int .i64), .int .i64] [] [.sl false 3 (.int .i64), .int .i64] (g_spec_l9Low k) fun v w K r h => hg_spec_l9Low k K v w ▸ h


/-! "loop.example/localglobal/spec.ValueFind" -/
noncomputable def l_spec_ValueFind_9 {R : Type} (k : Nat) : Nat → List Int → Int → List Int → Int → Int → Int → List Int → (Int → List Int → Option R) → Option R
  | 0, _, _, _, _, _, _, _, _ => none
  | n + 1, v6, v7, v8, v9, v10, v11, v12, K0 => cond (decide (v11 < (v8.length : Int))) (cond (decide (0 ≤ v11) && decide (v11 < ((v8).length : Int))) (cond (decide (0 ≤ v9) && decide (v9 < ((v6).length : Int))) (cond (decide (v11 = v9)) (cond (Nat.ble (v12.length + 1) LIM) (l_spec_ValueFind_9 k n v6 v7 v8 v9 v10 (IntKind.wrap .i64 (v11 + 1)) (v12 ++ [(IntKind.wrap .i64 ((IntKind.wrap .i64 ((List.getD v8 (Int.toNat v11) 0) * (IntKind.wrap .i64 (v7 - (List.getD v6 (Int.toNat v9) 0))))) + v10))]) K0) none) (cond (Nat.ble (v12.length + 1) LIM) (l_spec_ValueFind_9 k n v6 v7 v8 v9 v10 (IntKind.wrap .i64 (v11 + 1)) (v12 ++ [(IntKind.wrap .i64 ((List.getD v8 (Int.toNat v11) 0) * (IntKind.wrap .i64 (v7 - (List.getD v6 (Int.toNat v9) 0)))))]) K0) none)) none) none) (K0 v10 v12)

noncomputable def f_spec_ValueFind {R : Type} (k : Nat) (a0 : List Int) (a1 : Int) (K : List Int → Int → Bool → Option R) : Option R :=
  f_spec_l7Form k a0 (fun r1 => cond (!(r1)) (K [] 0 false) (f_spec_l9Number k a1 (fun r2 => cond (!(r2)) (K [] 0 false) (f_spec_ZeroFind k a0 (fun r3 r4 => cond (r4) (f_spec_l6kAxis k r3 (fun r5 => cond (decide (0 ≤ r5) && decide (r5 < ((a0).length : Int))) (cond (decide (0 ≤ r5) && decide (r5 < ((r3).length : Int))) (l_spec_ValueFind_9 k k a0 a1 r3 r5 (IntKind.wrap .i64 ((IntKind.wrap .i64 (2 * (List.getD a0 (Int.toNat r5) 0))) * (List.getD r3 (Int.toNat r5) 0))) 0 [] (fun y13 y14 => f_spec_l9Low k y14 y13 (fun r15 r16 => K r15 r16 true))) none) none)) (cond (Nat.ble (0 + a0.length) LIM) (cond (Nat.ble (([] ++ a0).length + 1) LIM) (f_spec_ZeroFind k (([] ++ a0) ++ [(IntKind.wrap .i64 (0 - a1))]) (fun r17 r18 => cond (!(r18)) (K [] 0 false) (cond (decide (0 ≤ 0) && decide (0 ≤ (a0.length : Int)) && decide ((a0.length : Int) ≤ (r17.length : Int))) (cond (decide (0 ≤ (a0.length : Int)) && decide ((a0.length : Int) < ((r17).length : Int))) (f_spec_l9Low k ((r17.take (Int.toNat (a0.length : Int))).drop (Int.toNat 0)) (List.getD r17 (Int.toNat (a0.length : Int)) 0) (fun r19 r20 => K r19 r20 true)) none) none))) none) none))))))


noncomputable def g_spec_ValueFind {R : Type} (k : Nat) (v : HT [.sl true 3 (.int .i64), .int .i64]) (w : HO []) (K : List SV → List Ob → Option R) : Option R := f_spec_ValueFind k v.1 v.2.1 (fun r0 r1 r2 => K [.sl false 3 (.int .i64) r0, .int .i64 r1, .bool r2] [])
noncomputable def F_spec_ValueFind {R : Type} (k : Nat) : CF R := wrapF [.sl true 3 (.int .i64), .int .i64] [] (g_spec_ValueFind k)
noncomputable def A_spec_ValueFind : Ann := { pre := nats [], cut := look [(9, [0, 1, 7, 9, 10, 11, 12])], frz := fun i => match look [] i with | some l => l | none => [], fz := nats [], out := outOf [(0, [10, 11])] (some [4, 5, 6]) }
noncomputable def T_spec_ValueFind {R : Type} (k : Nat) : List (Nat × (Bool × CF R)) := [(63, (false, (F_spec_ZeroFind k))), (64, (false, (F_spec_l6kAxis k))), (61, (false, (F_spec_l7Form k))), (65, (false, (F_spec_l9Low k))), (62, (false, (F_spec_l9Number k)))]
noncomputable abbrev h_spec_ValueFind_9 : Shape := ⟨[(0, .sl true 3 (.int .i64)), (1, .int .i64), (7, .sl false 3 (.int .i64)), (9, .int .i64), (10, .int .i64), (11, .slo 1048), (12, .int .i64)], [(1048, .arr 3 (.int .i64))]⟩
noncomputable def lf_spec_ValueFind_9 {R : Type} (k : Nat) (n : Nat) (v : h_spec_ValueFind_9.T) (K : Exit → St → Option R) : Option R := l_spec_ValueFind_9 k n v.1.1 v.1.2.1 v.1.2.2.1 v.1.2.2.2.1 v.1.2.2.2.2.1 v.1.2.2.2.2.2.2.1 v.2.1 (fun y0 y1 => K (.exit 0) ⟨[(10, .s (.int .i64 y0)), (11, .s (.slo 1048))], [(1048, .arr 3 (.int .i64) y1)]⟩)
noncomputable def L_spec_ValueFind {R : Type} (k : Nat) (c : Code) (s : St) (K : Exit → St → Option R) : Option R := cond (Nat.beq (firstReg c) 9) ((h_spec_ValueFind_9.dec (cutAt A_spec_ValueFind c s)).bind fun v => lf_spec_ValueFind_9 k k v K) (none)
theorem hT_spec_ValueFind {R : Type} (k : Nat) : TabOk tyE.P (T_spec_ValueFind (R := R) k) := ⟨(good_spec_ZeroFind k), (good_spec_l6kAxis k), (good_spec_l7Form k), (good_spec_l9Low k), (good_spec_l9Number k), trivial⟩
noncomputable def b_spec_ValueFind_9 : Code := nthLoop (bodyOf Try.f24) 0
theorem hs_spec_ValueFind_9 {R : Type} (k : Nat) (n : Nat) (K : Exit → St → Option R) : ∀ v, lf_spec_ValueFind_9 k (n + 1) v K = evk (look (T_spec_ValueFind k)) tyE A_spec_ValueFind (Func.ntmps Try.f24) (drawn (look (T_spec_ValueFind k)) tyE A_spec_ValueFind (nats []) (Func.ntmps Try.f24)) (L_spec_ValueFind k) b_spec_ValueFind_9 (h_spec_ValueFind_9.enc v) (loopK A_spec_ValueFind b_spec_ValueFind_9 h_spec_ValueFind_9.dec (lf_spec_ValueFind_9 k) n K) := by
  rintro ⟨⟨x0, x1, x2, x3, x4, _, x5, _⟩, ⟨x6, _⟩⟩
  kernel_rfl
theorem lo_spec_ValueFind_9 {R : Type} (k : Nat) : LoopOk tyE.P (Func.ntmps Try.f24) (L_spec_ValueFind (R := R) k) b_spec_ValueFind_9 :=
  fn_loop tyE_ok (tab_ok (hT_spec_ValueFind k)) A_spec_ValueFind (nats []) (loops_nil (R := R) (by kernel_rfl)) h_spec_ValueFind_9 (lf_spec_ValueFind_9 k) k (fun s K => by kernel_rfl) (fun v K => by kernel_rfl) fun n v K r h => hs_spec_ValueFind_9 k n K v ▸ h
theorem hg_spec_ValueFind {R : Type} (k : Nat) (K : List SV → List Ob → Option R) : ∀ v w, g_spec_ValueFind k v w K = runF (look (T_spec_ValueFind k)) tyE A_spec_ValueFind (nats []) (L_spec_ValueFind k) (Func.ntmps Try.f24) [.tmp 4, .tmp 5, .tmp 6] (bodyOf Try.f24) [.sl true 3 (.int .i64), .int .i64] [] [.sl false 3 (.int .i64), .int .i64, .bool] v w K := by
  rintro ⟨x0, x1, _⟩ _
  kernel_rfl
theorem good_spec_ValueFind {R : Type} (k : Nat) : Good tyE.P 24 false (F_spec_ValueFind (R := R) k) :=
  fn_good tyE_ok (tab_ok (hT_spec_ValueFind k)) A_spec_ValueFind (nats []) (fn := Try.f24) (c := bodyOf Try.f24) (rs := [.tmp 4, .tmp 5, .tmp 6]) (by kernel_rfl) (by kernel_rfl) (by kernel_rfl) (by kernel_rfl) (L := L_spec_ValueFind k) (loops_one (R := R) (by kernel_rfl) (lo_spec_ValueFind_9 k)) [.sl true 3 (.int .i64), .int .i64] [] [.sl false 3 (.int .i64), .int .i64, .bool] (g_spec_ValueFind k) fun v w K r h => hg_spec_ValueFind k K v w ▸ h


end Go.Proofs.Ytmmadcccjicdcaa.E
