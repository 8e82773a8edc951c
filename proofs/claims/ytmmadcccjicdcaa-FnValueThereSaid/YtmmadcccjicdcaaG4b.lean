/- The program's functions as plain Lean functions, and that the program comes to what they say. -/
import Derived.Test.YtmmadcccjicdcaaG4a
namespace Go.Proofs.Ytmmadcccjicdcaa.E
set_option linter.unusedVariables false
set_option maxRecDepth 100000

/-! "loop.example/localglobal/impl.valueOk" -/
noncomputable def f_impl_valueOk {R : Type} (k : Nat) (a0 : Int) (K : Bool → Option R) : Option R :=
  cond (!decide (a0 = 0)) (cond (decide ((-30) ≤ a0)) (K (decide (a0 ≤ 30))) (K false)) (K false)


noncomputable def g_impl_valueOk {R : Type} (k : Nat) (v : HT [.int .i64]) (w : HO []) (K : List SV → List Ob → Option R) : Option R := f_impl_valueOk k v.1 (fun r0 => K [.bool r0] [])
noncomputable def F_impl_valueOk {R : Type} (k : Nat) : CF R := wrapF [.int .i64] [] (g_impl_valueOk k)
noncomputable def A_impl_valueOk : Ann := { pre := nats [], cut := look [], frz := fun i => match look [] i with | some l => l | none => [], fz := nats [], out := outOf [] (some [2]) }
noncomputable def T_impl_valueOk {R : Type} (k : Nat) : List (Nat × (Bool × CF R)) := []
noncomputable def L_impl_valueOk {R : Type} (k : Nat) (c : Code) (s : St) (K : Exit → St → Option R) : Option R := none
theorem hT_impl_valueOk {R : Type} (k : Nat) : TabOk tyE.P (T_impl_valueOk (R := R) k) := trivial
theorem hg_impl_valueOk {R : Type} (k : Nat) (K : List SV → List Ob → Option R) : ∀ v w, g_impl_valueOk k v w K = runF (look (T_impl_valueOk k)) tyE A_impl_valueOk (nats []) (L_impl_valueOk k) (Func.ntmps Try.f44) [.tmp 2] (bodyOf Try.f44) [.int .i64] [] [.bool] v w K := by
  rintro ⟨x0, _⟩ _
  kernel_rfl
theorem good_impl_valueOk {R : Type} (k : Nat) : Good tyE.P 44 false (F_impl_valueOk (R := R) k) :=
  fn_good tyE_ok (tab_ok (hT_impl_valueOk k)) A_impl_valueOk (nats []) (fn := Try.f44) (c := bodyOf Try.f44) (rs := [.tmp 2]) (by kernel_rfl) (by kernel_rfl) (by kernel_rfl) (by kernel_rfl) (L := L_impl_valueOk k) (loops_nil (R := R) (by kernel_rfl)) [.int .i64] [] [.bool] (g_impl_valueOk k) fun v w K r h => hg_impl_valueOk k K v w ▸ h


/-! "slices.Clone[[]int,int]" -/
noncomputable def f_slices_Clone {R : Type} (k : Nat) (a0 : List Int) (K : List Int → Option R) : Option R :=
  cond (isNe a0) (cond (Nat.ble (0 + a0.length) LIM) (K ([] ++ a0)) none) none


noncomputable def g_slices_Clone {R : Type} (k : Nat) (v : HT [.sl true 3 (.int .i64)]) (w : HO []) (K : List SV → List Ob → Option R) : Option R := f_slices_Clone k v.1 (fun r0 => K [.slo 0] [.arr 3 (.int .i64) r0])
noncomputable def F_slices_Clone {R : Type} (k : Nat) : CF R := wrapF [.sl true 3 (.int .i64)] [] (g_slices_Clone k)
noncomputable def A_slices_Clone : Ann := { pre := nats [], cut := look [], frz := fun i => match look [] i with | some l => l | none => [], fz := nats [], out := outOf [] (some [2]) }
noncomputable def T_slices_Clone {R : Type} (k : Nat) : List (Nat × (Bool × CF R)) := []
noncomputable def L_slices_Clone {R : Type} (k : Nat) (c : Code) (s : St) (K : Exit → St → Option R) : Option R := none
theorem hT_slices_Clone {R : Type} (k : Nat) : TabOk tyE.P (T_slices_Clone (R := R) k) := trivial
theorem hg_slices_Clone {R : Type} (k : Nat) (K : List SV → List Ob → Option R) : ∀ v w, g_slices_Clone k v w K = runR (look (T_slices_Clone k)) tyE A_slices_Clone (nats []) (L_slices_Clone k) (Func.ntmps Try.f58) [.tmp 2] (bodyOf Try.f58) [.sl true 3 (.int .i64)] [] [.slo 0] v w K := by
  rintro ⟨x0, _⟩ _
  kernel_rfl
theorem good_slices_Clone {R : Type} (k : Nat) : Good tyE.P 58 false (F_slices_Clone (R := R) k) :=
  fn_good_raw tyE_ok (tab_ok (hT_slices_Clone k)) A_slices_Clone (nats []) (fn := Try.f58) (c := bodyOf Try.f58) (rs := [.tmp 2]) (by kernel_rfl) (by kernel_rfl) (by kernel_rfl) (by kernel_rfl) (L := L_slices_Clone k) (loops_nil (R := R) (by kernel_rfl)) [.sl true 3 (.int .i64)] [] [.slo 0] (g_slices_Clone k) fun v w K r h => hg_slices_Clone k K v w ▸ h


/-! "loop.example/localglobal/impl.split" -/
noncomputable def l_impl_split_2 {R : Type} (k : Nat) : Nat → Int → Int → Int → (Int → Int → Option R) → Option R
  | 0, _, _, _, _ => none
  | n + 1, v1, v2, v3, K0 => cond (!decide (v2 = 0)) (cond (decide ((Int.tmod v1 v2) = 0)) (cond (!decide (v2 = 0)) (l_impl_split_2 k n (IntKind.wrap .i64 (Int.tdiv v1 v2)) v2 (IntKind.wrap .i64 (v3 + 1)) K0) none) (K0 v1 v3)) none

noncomputable def f_impl_split {R : Type} (k : Nat) (a0 : Int) (a1 : Int) (K : Int → Int → Option R) : Option R :=
  l_impl_split_2 k k a0 a1 0 (fun y4 y5 => K y5 y4)


noncomputable def g_impl_split {R : Type} (k : Nat) (v : HT [.int .i64, .int .i64]) (w : HO []) (K : List SV → List Ob → Option R) : Option R := f_impl_split k v.1 v.2.1 (fun r0 r1 => K [.int .i64 r0, .int .i64 r1] [])
noncomputable def F_impl_split {R : Type} (k : Nat) : CF R := wrapF [.int .i64, .int .i64] [] (g_impl_split k)
noncomputable def A_impl_split : Ann := { pre := nats [], cut := look [(2, [0, 1, 6])], frz := fun i => match look [] i with | some l => l | none => [], fz := nats [], out := outOf [(0, [0, 6])] (some [4, 5]) }
noncomputable def T_impl_split {R : Type} (k : Nat) : List (Nat × (Bool × CF R)) := []
noncomputable abbrev h_impl_split_2 : Shape := ⟨[(0, .int .i64), (1, .int .i64), (6, .int .i64)], []⟩
noncomputable def lf_impl_split_2 {R : Type} (k : Nat) (n : Nat) (v : h_impl_split_2.T) (K : Exit → St → Option R) : Option R := l_impl_split_2 k n v.1.1 v.1.2.1 v.1.2.2.1 (fun y0 y1 => K (.exit 0) ⟨[(0, .s (.int .i64 y0)), (6, .s (.int .i64 y1))], []⟩)
noncomputable def L_impl_split {R : Type} (k : Nat) (c : Code) (s : St) (K : Exit → St → Option R) : Option R := cond (Nat.beq (firstReg c) 2) ((h_impl_split_2.dec (cutAt A_impl_split c s)).bind fun v => lf_impl_split_2 k k v K) (none)
theorem hT_impl_split {R : Type} (k : Nat) : TabOk tyE.P (T_impl_split (R := R) k) := trivial
noncomputable def b_impl_split_2 : Code := nthLoop (bodyOf Try.f94) 0
theorem hs_impl_split_2 {R : Type} (k : Nat) (n : Nat) (K : Exit → St → Option R) : ∀ v, lf_impl_split_2 k (n + 1) v K = evk (look (T_impl_split k)) tyE A_impl_split (Func.ntmps Try.f94) (drawn (look (T_impl_split k)) tyE A_impl_split (nats []) (Func.ntmps Try.f94)) (L_impl_split k) b_impl_split_2 (h_impl_split_2.enc v) (loopK A_impl_split b_impl_split_2 h_impl_split_2.dec (lf_impl_split_2 k) n K) := by
  rintro ⟨⟨x0, x1, x2, _⟩, _⟩
  kernel_rfl
theorem lo_impl_split_2 {R : Type} (k : Nat) : LoopOk tyE.P (Func.ntmps Try.f94) (L_impl_split (R := R) k) b_impl_split_2 :=
  fn_loop tyE_ok (tab_ok (hT_impl_split k)) A_impl_split (nats []) (loops_nil (R := R) (by kernel_rfl)) h_impl_split_2 (lf_impl_split_2 k) k (fun s K => by kernel_rfl) (fun v K => by kernel_rfl) fun n v K r h => hs_impl_split_2 k n K v ▸ h
theorem hg_impl_split {R : Type} (k : Nat) (K : List SV → List Ob → Option R) : ∀ v w, g_impl_split k v w K = runF (look (T_impl_split k)) tyE A_impl_split (nats []) (L_impl_split k) (Func.ntmps Try.f94) [.tmp 4, .tmp 5] (bodyOf Try.f94) [.int .i64, .int .i64] [] [.int .i64, .int .i64] v w K := by
  rintro ⟨x0, x1, _⟩ _
  kernel_rfl
theorem good_impl_split {R : Type} (k : Nat) : Good tyE.P 94 false (F_impl_split (R := R) k) :=
  fn_good tyE_ok (tab_ok (hT_impl_split k)) A_impl_split (nats []) (fn := Try.f94) (c := bodyOf Try.f94) (rs := [.tmp 4, .tmp 5]) (by kernel_rfl) (by kernel_rfl) (by kernel_rfl) (by kernel_rfl) (L := L_impl_split k) (loops_one (R := R) (by kernel_rfl) (lo_impl_split_2 k)) [.int .i64, .int .i64] [] [.int .i64, .int .i64] (g_impl_split k) fun v w K r h => hg_impl_split k K v w ▸ h


/-! "loop.example/localglobal/impl.primesOf" -/
noncomputable def l_impl_primesOf_4 {R : Type} (k : Nat) : Nat → Int → Int → List Int → (Int → List Int → Option R) → Option R
  | 0, _, _, _, _ => none
  | n + 1, v2, v3, v4, K0 => cond (decide ((IntKind.wrap .i64 (v3 * v3)) ≤ v2)) (cond (!decide (v3 = 0)) (cond (decide ((Int.tmod v2 v3) = 0)) (cond (Nat.ble (v4.length + 1) LIM) (f_impl_split k v2 v3 (fun r5 r6 => l_impl_primesOf_4 k n r6 (IntKind.wrap .i64 (v3 + 1)) (v4 ++ [v3]) K0)) none) (l_impl_primesOf_4 k n v2 (IntKind.wrap .i64 (v3 + 1)) v4 K0)) none) (K0 v2 v4)

noncomputable def f_impl_primesOf {R : Type} (k : Nat) (a0 : Int) (K : List Int → Option R) : Option R :=
  f_impl_size k a0 (fun r1 => l_impl_primesOf_4 k k r1 2 [] (fun y7 y8 => cond (decide (1 < y7)) (cond (Nat.ble (y8.length + 1) LIM) (K (y8 ++ [y7])) none) (K y8)))


noncomputable def g_impl_primesOf {R : Type} (k : Nat) (v : HT [.int .i64]) (w : HO []) (K : List SV → List Ob → Option R) : Option R := f_impl_primesOf k v.1 (fun r0 => K [.sl false 3 (.int .i64) r0] [])
noncomputable def F_impl_primesOf {R : Type} (k : Nat) : CF R := wrapF [.int .i64] [] (g_impl_primesOf k)
noncomputable def A_impl_primesOf : Ann := { pre := nats [], cut := look [(4, [0, 3, 4])], frz := fun i => match look [] i with | some l => l | none => [], fz := nats [], out := outOf [(0, [0, 3])] (some [2]) }
noncomputable def T_impl_primesOf {R : Type} (k : Nat) : List (Nat × (Bool × CF R)) := [(48, (false, (F_impl_size k))), (94, (false, (F_impl_split k)))]
noncomputable abbrev h_impl_primesOf_4 : Shape := ⟨[(0, .int .i64), (3, .slo 1005), (4, .int .i64)], [(1005, .arr 3 (.int .i64))]⟩
noncomputable def lf_impl_primesOf_4 {R : Type} (k : Nat) (n : Nat) (v : h_impl_primesOf_4.T) (K : Exit → St → Option R) : Option R := l_impl_primesOf_4 k n v.1.1 v.1.2.2.1 v.2.1 (fun y0 y1 => K (.exit 0) ⟨[(0, .s (.int .i64 y0)), (3, .s (.slo 1005))], [(1005, .arr 3 (.int .i64) y1)]⟩)
noncomputable def L_impl_primesOf {R : Type} (k : Nat) (c : Code) (s : St) (K : Exit → St → Option R) : Option R := cond (Nat.beq (firstReg c) 4) ((h_impl_primesOf_4.dec (cutAt A_impl_primesOf c s)).bind fun v => lf_impl_primesOf_4 k k v K) (none)
theorem hT_impl_primesOf {R : Type} (k : Nat) : TabOk tyE.P (T_impl_primesOf (R := R) k) := ⟨(good_impl_size k), (good_impl_split k), trivial⟩
noncomputable def b_impl_primesOf_4 : Code := nthLoop (bodyOf Try.f78) 0
theorem hs_impl_primesOf_4 {R : Type} (k : Nat) (n : Nat) (K : Exit → St → Option R) : ∀ v, lf_impl_primesOf_4 k (n + 1) v K = evk (look (T_impl_primesOf k)) tyE A_impl_primesOf (Func.ntmps Try.f78) (drawn (look (T_impl_primesOf k)) tyE A_impl_primesOf (nats []) (Func.ntmps Try.f78)) (L_impl_primesOf k) b_impl_primesOf_4 (h_impl_primesOf_4.enc v) (loopK A_impl_primesOf b_impl_primesOf_4 h_impl_primesOf_4.dec (lf_impl_primesOf_4 k) n K) := by
  rintro ⟨⟨x0, _, x1, _⟩, ⟨x2, _⟩⟩
  kernel_rfl
theorem lo_impl_primesOf_4 {R : Type} (k : Nat) : LoopOk tyE.P (Func.ntmps Try.f78) (L_impl_primesOf (R := R) k) b_impl_primesOf_4 :=
  fn_loop tyE_ok (tab_ok (hT_impl_primesOf k)) A_impl_primesOf (nats []) (loops_nil (R := R) (by kernel_rfl)) h_impl_primesOf_4 (lf_impl_primesOf_4 k) k (fun s K => by kernel_rfl) (fun v K => by kernel_rfl) fun n v K r h => hs_impl_primesOf_4 k n K v ▸ h
theorem hg_impl_primesOf {R : Type} (k : Nat) (K : List SV → List Ob → Option R) : ∀ v w, g_impl_primesOf k v w K = runF (look (T_impl_primesOf k)) tyE A_impl_primesOf (nats []) (L_impl_primesOf k) (Func.ntmps Try.f78) [.tmp 2] (bodyOf Try.f78) [.int .i64] [] [.sl false 3 (.int .i64)] v w K := by
  rintro ⟨x0, _⟩ _
  kernel_rfl
theorem good_impl_primesOf {R : Type} (k : Nat) : Good tyE.P 78 false (F_impl_primesOf (R := R) k) :=
  fn_good tyE_ok (tab_ok (hT_impl_primesOf k)) A_impl_primesOf (nats []) (fn := Try.f78) (c := bodyOf Try.f78) (rs := [.tmp 2]) (by kernel_rfl) (by kernel_rfl) (by kernel_rfl) (by kernel_rfl) (L := L_impl_primesOf k) (loops_one (R := R) (by kernel_rfl) (lo_impl_primesOf_4 k)) [.int .i64] [] [.sl false 3 (.int .i64)] (g_impl_primesOf k) fun v w K r h => hg_impl_primesOf k K v w ▸ h


/-! "slices.Index[[]int,int]" -/
noncomputable def l_slices_Index_2 {R : Type} (k : Nat) : Nat → List Int → Int → Int → Int → (Int → Option R) → (Option R) → Option R
  | 0, _, _, _, _, _, _ => none
  | n + 1, v1, v2, v3, v4, K0, K1 => cond (decide (v4 < v3)) (cond (decide (0 ≤ v4) && decide (v4 < ((v1).length : Int))) (cond (decide (v2 = (List.getD v1 (Int.toNat v4) 0))) (K0 v4) (l_slices_Index_2 k n v1 v2 v3 (IntKind.wrap .i64 (v4 + 1)) K0 K1)) none) (K1)

noncomputable def f_slices_Index {R : Type} (k : Nat) (a0 : List Int) (a1 : Int) (K : Int → Option R) : Option R :=
  l_slices_Index_2 k k a0 a1 (a0.length : Int) 0 (fun y5 => K y5) (K (-1))


noncomputable def g_slices_Index {R : Type} (k : Nat) (v : HT [.sl true 3 (.int .i64), .int .i64]) (w : HO []) (K : List SV → List Ob → Option R) : Option R := f_slices_Index k v.1 v.2.1 (fun r0 => K [.int .i64 r0] [])
noncomputable def F_slices_Index {R : Type} (k : Nat) : CF R := wrapF [.sl true 3 (.int .i64), .int .i64] [] (g_slices_Index k)
noncomputable def A_slices_Index : Ann := { pre := nats [], cut := look [(2, [0, 1, 7, 8])], frz := fun i => match look [] i with | some l => l | none => [], fz := nats [], out := outOf [(0, [])] (some [4]) }
noncomputable def T_slices_Index {R : Type} (k : Nat) : List (Nat × (Bool × CF R)) := []
noncomputable abbrev h_slices_Index_2 : Shape := ⟨[(0, .sl true 3 (.int .i64)), (1, .int .i64), (7, .int .i64), (8, .int .i64)], []⟩
noncomputable def lf_slices_Index_2 {R : Type} (k : Nat) (n : Nat) (v : h_slices_Index_2.T) (K : Exit → St → Option R) : Option R := l_slices_Index_2 k n v.1.1 v.1.2.1 v.1.2.2.1 v.1.2.2.2.1 (fun y0 => K (.ret) ⟨[(4, .s (.int .i64 y0))], []⟩) (K (.exit 0) ⟨[], []⟩)
noncomputable def L_slices_Index {R : Type} (k : Nat) (c : Code) (s : St) (K : Exit → St → Option R) : Option R := cond (Nat.beq (firstReg c) 2) ((h_slices_Index_2.dec (cutAt A_slices_Index c s)).bind fun v => lf_slices_Index_2 k k v K) (none)
theorem hT_slices_Index {R : Type} (k : Nat) : TabOk tyE.P (T_slices_Index (R := R) k) := trivial
noncomputable def b_slices_Index_2 : Code := nthLoop (bodyOf Try.f95) 0
theorem hs_slices_Index_2 {R : Type} (k : Nat) (n : Nat) (K : Exit → St → Option R) : ∀ v, lf_slices_Index_2 k (n + 1) v K = evk (look (T_slices_Index k)) tyE A_slices_Index (Func.ntmps Try.f95) (drawn (look (T_slices_Index k)) tyE A_slices_Index (nats []) (Func.ntmps Try.f95)) (L_slices_Index k) b_slices_Index_2 (h_slices_Index_2.enc v) (loopK A_slices_Index b_slices_Index_2 h_slices_Index_2.dec (lf_slices_Index_2 k) n K) := by
  rintro ⟨⟨x0, x1, x2, x3, _⟩, _⟩
  kernel_rfl
theorem lo_slices_Index_2 {R : Type} (k : Nat) : LoopOk tyE.P (Func.ntmps Try.f95) (L_slices_Index (R := R) k) b_slices_Index_2 :=
  fn_loop tyE_ok (tab_ok (hT_slices_Index k)) A_slices_Index (nats []) (loops_nil (R := R) (by kernel_rfl)) h_slices_Index_2 (lf_slices_Index_2 k) k (fun s K => by kernel_rfl) (fun v K => by kernel_rfl) fun n v K r h => hs_slices_Index_2 k n K v ▸ h
theorem hg_slices_Index {R : Type} (k : Nat) (K : List SV → List Ob → Option R) : ∀ v w, g_slices_Index k v w K = runF (look (T_slices_Index k)) tyE A_slices_Index (nats []) (L_slices_Index k) (Func.ntmps Try.f95) [.tmp 4] (bodyOf Try.f95) [.sl true 3 (.int .i64), .int .i64] [] [.int .i64] v w K := by
  rintro ⟨x0, x1, _⟩ _
  kernel_rfl
theorem good_slices_Index {R : Type} (k : Nat) : Good tyE.P 95 false (F_slices_Index (R := R) k) :=
  fn_good tyE_ok (tab_ok (hT_slices_Index k)) A_slices_Index (nats []) (fn := Try.f95) (c := bodyOf Try.f95) (rs := [.tmp 4]) (by kernel_rfl) (by kernel_rfl) (by kernel_rfl) (by kernel_rfl) (L := L_slices_Index k) (loops_one (R := R) (by kernel_rfl) (lo_slices_Index_2 k)) [.sl true 3 (.int .i64), .int .i64] [] [.int .i64] (g_slices_Index k) fun v w K r h => hg_slices_Index k K v w ▸ h


/-! "slices.Contains[[]int,int]" -/
noncomputable def f_slices_Contains {R : Type} (k : Nat) (a0 : List Int) (a1 : Int) (K : Bool → Option R) : Option R :=
  f_slices_Index k a0 a1 (fun r1 => K (decide (0 ≤ r1)))


noncomputable def g_slices_Contains {R : Type} (k : Nat) (v : HT [.sl true 3 (.int .i64), .int .i64]) (w : HO []) (K : List SV → List Ob → Option R) : Option R := f_slices_Contains k v.1 v.2.1 (fun r0 => K [.bool r0] [])
noncomputable def F_slices_Contains {R : Type} (k : Nat) : CF R := wrapF [.sl true 3 (.int .i64), .int .i64] [] (g_slices_Contains k)
noncomputable def A_slices_Contains : Ann := { pre := nats [], cut := look [], frz := fun i => match look [] i with | some l => l | none => [], fz := nats [], out := outOf [] (some [4]) }
noncomputable def T_slices_Contains {R : Type} (k : Nat) : List (Nat × (Bool × CF R)) := [(95, (false, (F_slices_Index k)))]
noncomputable def L_slices_Contains {R : Type} (k : Nat) (c : Code) (s : St) (K : Exit → St → Option R) : Option R := none
theorem hT_slices_Contains {R : Type} (k : Nat) : TabOk tyE.P (T_slices_Contains (R := R) k) := ⟨(good_slices_Index k), trivial⟩
theorem hg_slices_Contains {R : Type} (k : Nat) (K : List SV → List Ob → Option R) : ∀ v w, g_slices_Contains k v w K = runF (look (T_slices_Contains k)) tyE A_slices_Contains (nats []) (L_slices_Contains k) (Func.ntmps Try.f80) [.tmp 4] (bodyOf Try.f80) [.sl true 3 (.int .i64), .int .i64] [] [.bool] v w K := by
  rintro ⟨x0, x1, _⟩ _
  kernel_rfl
theorem good_slices_Contains {R : Type} (k : Nat) : Good tyE.P 80 false (F_slices_Contains (R := R) k) :=
  fn_good tyE_ok (tab_ok (hT_slices_Contains k)) A_slices_Contains (nats []) (fn := Try.f80) (c := bodyOf Try.f80) (rs := [.tmp 4]) (by kernel_rfl) (by kernel_rfl) (by kernel_rfl) (by kernel_rfl) (L := L_slices_Contains k) (loops_nil (R := R) (by kernel_rfl)) [.sl true 3 (.int .i64), .int .i64] [] [.bool] (g_slices_Contains k) fun v w K r h => hg_slices_Contains k K v w ▸ h


/-! "loop.example/localglobal/impl.placesOf" -/
noncomputable def l_impl_placesOf_6 {R : Type} (k : Nat) : Nat → List Int → Int → Int → List Int → Int → Int → List Int → (List Int → Int → Int → List Int → Option R) → Option R
  | 0, _, _, _, _, _, _, _, _ => none
  | n + 1, v6, v7, v8, v9, v10, v11, v12, K0 => cond (decide (v11 < v10)) (cond (decide (0 ≤ v11) && decide (v11 < ((v9).length : Int))) (f_slices_Contains k v12 (List.getD v9 (Int.toNat v11) 0) (fun r13 => cond (!(r13)) (cond (Nat.ble (v12.length + 1) LIM) (l_impl_placesOf_6 k n v6 v7 v8 v9 v10 (IntKind.wrap .i64 (v11 + 1)) (v12 ++ [(List.getD v9 (Int.toNat v11) 0)]) K0) none) (l_impl_placesOf_6 k n v6 v7 v8 v9 v10 (IntKind.wrap .i64 (v11 + 1)) v12 K0))) none) (K0 v6 v7 v8 v12)

noncomputable def l_impl_placesOf_3 {R : Type} (k : Nat) : Nat → List Int → Int → Int → List Int → (List Int → Option R) → Option R
  | 0, _, _, _, _, _ => none
  | n + 1, v1, v2, v3, v4, K0 => cond (decide (v3 < v2)) (cond (decide (0 ≤ v3) && decide (v3 < ((v1).length : Int))) (f_impl_primesOf k (List.getD v1 (Int.toNat v3) 0) (fun r5 => l_impl_placesOf_6 k k v1 v2 v3 r5 (r5.length : Int) 0 v4 (fun y14 y15 y16 y17 => l_impl_placesOf_3 k n y14 y15 (IntKind.wrap .i64 (y16 + 1)) y17 K0))) none) (K0 v4)

noncomputable def f_impl_placesOf {R : Type} (k : Nat) (a0 : List Int) (K : List Int → Option R) : Option R :=
  l_impl_placesOf_3 k k a0 (a0.length : Int) 0 [0, 2] (fun y18 => f_slices_Sort k y18 (fun r19 => K r19))


noncomputable def g_impl_placesOf {R : Type} (k : Nat) (v : HT [.sl true 3 (.int .i64)]) (w : HO []) (K : List SV → List Ob → Option R) : Option R := f_impl_placesOf k v.1 (fun r0 => K [.sl false 3 (.int .i64) r0] [])
noncomputable def F_impl_placesOf {R : Type} (k : Nat) : CF R := wrapF [.sl true 3 (.int .i64)] [] (g_impl_placesOf k)
noncomputable def A_impl_placesOf : Ann := { pre := nats [], cut := look [(3, [3, 9, 10, 11]), (6, [3, 9, 10, 11, 16, 17, 18])], frz := fun i => match look [] i with | some l => l | none => [], fz := nats [], out := outOf [(0, [3]), (2, [3, 9, 10, 11])] (some [2]) }
noncomputable def T_impl_placesOf {R : Type} (k : Nat) : List (Nat × (Bool × CF R)) := [(78, (false, (F_impl_primesOf k))), (80, (false, (F_slices_Contains k))), (81, (true, (F_slices_Sort k)))]
noncomputable abbrev h_impl_placesOf_3 : Shape := ⟨[(3, .slo 1008), (9, .sl true 3 (.int .i64)), (10, .int .i64), (11, .int .i64)], [(1008, .arr 3 (.int .i64))]⟩
noncomputable def lf_impl_placesOf_3 {R : Type} (k : Nat) (n : Nat) (v : h_impl_placesOf_3.T) (K : Exit → St → Option R) : Option R := l_impl_placesOf_3 k n v.1.2.1 v.1.2.2.1 v.1.2.2.2.1 v.2.1 (fun y0 => K (.exit 0) ⟨[(3, .s (.slo 1008))], [(1008, .arr 3 (.int .i64) y0)]⟩)
noncomputable abbrev h_impl_placesOf_6 : Shape := ⟨[(3, .slo 1008), (9, .sl true 3 (.int .i64)), (10, .int .i64), (11, .int .i64), (16, .sl false 3 (.int .i64)), (17, .int .i64), (18, .int .i64)], [(1008, .arr 3 (.int .i64))]⟩
noncomputable def lf_impl_placesOf_6 {R : Type} (k : Nat) (n : Nat) (v : h_impl_placesOf_6.T) (K : Exit → St → Option R) : Option R := l_impl_placesOf_6 k n v.1.2.1 v.1.2.2.1 v.1.2.2.2.1 v.1.2.2.2.2.1 v.1.2.2.2.2.2.1 v.1.2.2.2.2.2.2.1 v.2.1 (fun y0 y1 y2 y3 => K (.exit 2) ⟨[(3, .s (.slo 1008)), (9, .s (.sl true 3 (.int .i64) y0)), (10, .s (.int .i64 y1)), (11, .s (.int .i64 y2))], [(1008, .arr 3 (.int .i64) y3)]⟩)
noncomputable def L_impl_placesOf {R : Type} (k : Nat) (c : Code) (s : St) (K : Exit → St → Option R) : Option R := cond (Nat.beq (firstReg c) 6) ((h_impl_placesOf_6.dec (cutAt A_impl_placesOf c s)).bind fun v => lf_impl_placesOf_6 k k v K) (cond (Nat.beq (firstReg c) 3) ((h_impl_placesOf_3.dec (cutAt A_impl_placesOf c s)).bind fun v => lf_impl_placesOf_3 k k v K) (none))
theorem hT_impl_placesOf {R : Type} (k : Nat) : TabOk tyE.P (T_impl_placesOf (R := R) k) := ⟨(good_impl_primesOf k), (good_slices_Contains k), (good_slices_Sort k), trivial⟩
noncomputable def b_impl_placesOf_3 : Code := nthLoop (bodyOf Try.f57) 0
noncomputable def b_impl_placesOf_6 : Code := nthLoop (b_impl_placesOf_3) 0
theorem hs_impl_placesOf_6 {R : Type} (k : Nat) (n : Nat) (K : Exit → St → Option R) : ∀ v, lf_impl_placesOf_6 k (n + 1) v K = evk (look (T_impl_placesOf k)) tyE A_impl_placesOf (Func.ntmps Try.f57) (drawn (look (T_impl_placesOf k)) tyE A_impl_placesOf (nats []) (Func.ntmps Try.f57)) (L_impl_placesOf k) b_impl_placesOf_6 (h_impl_placesOf_6.enc v) (loopK A_impl_placesOf b_impl_placesOf_6 h_impl_placesOf_6.dec (lf_impl_placesOf_6 k) n K) := by
  rintro ⟨⟨_, x0, x1, x2, x3, x4, x5, _⟩, ⟨x6, _⟩⟩
  kernel_rfl
theorem lo_impl_placesOf_6 {R : Type} (k : Nat) : LoopOk tyE.P (Func.ntmps Try.f57) (L_impl_placesOf (R := R) k) b_impl_placesOf_6 :=
  fn_loop tyE_ok (tab_ok (hT_impl_placesOf k)) A_impl_placesOf (nats []) (loops_nil (R := R) (by kernel_rfl)) h_impl_placesOf_6 (lf_impl_placesOf_6 k) k (fun s K => by kernel_rfl) (fun v K => by kernel_rfl) fun n v K r h => hs_impl_placesOf_6 k n K v ▸ h
theorem hs_impl_placesOf_3 {R : Type} (k : Nat) (n : Nat) (K : Exit → St → Option R) : ∀ v, lf_impl_placesOf_3 k (n + 1) v K = evk (look (T_impl_placesOf k)) tyE A_impl_placesOf (Func.ntmps Try.f57) (drawn (look (T_impl_placesOf k)) tyE A_impl_placesOf (nats []) (Func.ntmps Try.f57)) (L_impl_placesOf k) b_impl_placesOf_3 (h_impl_placesOf_3.enc v) (loopK A_impl_placesOf b_impl_placesOf_3 h_impl_placesOf_3.dec (lf_impl_placesOf_3 k) n K) := by
  rintro ⟨⟨_, x0, x1, x2, _⟩, ⟨x3, _⟩⟩
  kernel_rfl
theorem lo_impl_placesOf_3 {R : Type} (k : Nat) : LoopOk tyE.P (Func.ntmps Try.f57) (L_impl_placesOf (R := R) k) b_impl_placesOf_3 :=
  fn_loop tyE_ok (tab_ok (hT_impl_placesOf k)) A_impl_placesOf (nats []) (loops_one (R := R) (by kernel_rfl) (lo_impl_placesOf_6 k)) h_impl_placesOf_3 (lf_impl_placesOf_3 k) k (fun s K => by kernel_rfl) (fun v K => by kernel_rfl) fun n v K r h => hs_impl_placesOf_3 k n K v ▸ h
theorem hg_impl_placesOf {R : Type} (k : Nat) (K : List SV → List Ob → Option R) : ∀ v w, g_impl_placesOf k v w K = runF (look (T_impl_placesOf k)) tyE A_impl_placesOf (nats []) (L_impl_placesOf k) (Func.ntmps Try.f57) [.tmp 2] (bodyOf Try.f57) [.sl true 3 (.int .i64)] [] [.sl false 3 (.int .i64)] v w K := by
  rintro ⟨x0, _⟩ _
  kernel_rfl
theorem good_impl_placesOf {R : Type} (k : Nat) : Good tyE.P 57 false (F_impl_placesOf (R := R) k) :=
  fn_good tyE_ok (tab_ok (hT_impl_placesOf k)) A_impl_placesOf (nats []) (fn := Try.f57) (c := bodyOf Try.f57) (rs := [.tmp 2]) (by kernel_rfl) (by kernel_rfl) (by kernel_rfl) (by kernel_rfl) (L := L_impl_placesOf k) (loops_one (R := R) (by kernel_rfl) (lo_impl_placesOf_3 k)) [.sl true 3 (.int .i64)] [] [.sl false 3 (.int .i64)] (g_impl_placesOf k) fun v w K r h => hg_impl_placesOf k K v w ▸ h


/-! "loop.example/localglobal/impl.product" -/
noncomputable def l_impl_product_3 {R : Type} (k : Nat) : Nat → Int → List Int → Int → Int → (Int → Option R) → Option R
  | 0, _, _, _, _, _ => none
  | n + 1, v1, v2, v3, v4, K0 => cond (decide (v4 < v3)) (cond (decide (0 ≤ v4) && decide (v4 < ((v2).length : Int))) (l_impl_product_3 k n (IntKind.wrap .i64 (v1 * (List.getD v2 (Int.toNat v4) 0))) v2 v3 (IntKind.wrap .i64 (v4 + 1)) K0) none) (K0 v1)

noncomputable def f_impl_product {R : Type} (k : Nat) (a0 : List Int) (K : Int → Option R) : Option R :=
  l_impl_product_3 k k 1 a0 (a0.length : Int) 0 (fun y5 => K y5)


noncomputable def g_impl_product {R : Type} (k : Nat) (v : HT [.sl true 3 (.int .i64)]) (w : HO []) (K : List SV → List Ob → Option R) : Option R := f_impl_product k v.1 (fun r0 => K [.int .i64 r0] [])
noncomputable def F_impl_product {R : Type} (k : Nat) : CF R := wrapF [.sl true 3 (.int .i64)] [] (g_impl_product k)
noncomputable def A_impl_product : Ann := { pre := nats [], cut := look [(3, [3, 6, 7, 8])], frz := fun i => match look [] i with | some l => l | none => [], fz := nats [], out := outOf [(0, [3])] (some [2]) }
noncomputable def T_impl_product {R : Type} (k : Nat) : List (Nat × (Bool × CF R)) := []
noncomputable abbrev h_impl_product_3 : Shape := ⟨[(3, .int .i64), (6, .sl true 3 (.int .i64)), (7, .int .i64), (8, .int .i64)], []⟩
noncomputable def lf_impl_product_3 {R : Type} (k : Nat) (n : Nat) (v : h_impl_product_3.T) (K : Exit → St → Option R) : Option R := l_impl_product_3 k n v.1.1 v.1.2.1 v.1.2.2.1 v.1.2.2.2.1 (fun y0 => K (.exit 0) ⟨[(3, .s (.int .i64 y0))], []⟩)
noncomputable def L_impl_product {R : Type} (k : Nat) (c : Code) (s : St) (K : Exit → St → Option R) : Option R := cond (Nat.beq (firstReg c) 3) ((h_impl_product_3.dec (cutAt A_impl_product c s)).bind fun v => lf_impl_product_3 k k v K) (none)
theorem hT_impl_product {R : Type} (k : Nat) : TabOk tyE.P (T_impl_product (R := R) k) := trivial
noncomputable def b_impl_product_3 : Code := nthLoop (bodyOf Try.f73) 0
theorem hs_impl_product_3 {R : Type} (k : Nat) (n : Nat) (K : Exit → St → Option R) : ∀ v, lf_impl_product_3 k (n + 1) v K = evk (look (T_impl_product k)) tyE A_impl_product (Func.ntmps Try.f73) (drawn (look (T_impl_product k)) tyE A_impl_product (nats []) (Func.ntmps Try.f73)) (L_impl_product k) b_impl_product_3 (h_impl_product_3.enc v) (loopK A_impl_product b_impl_product_3 h_impl_product_3.dec (lf_impl_product_3 k) n K) := by
  rintro ⟨⟨x0, x1, x2, x3, _⟩, _⟩
  kernel_rfl
theorem lo_impl_product_3 {R : Type} (k : Nat) : LoopOk tyE.P (Func.ntmps Try.f73) (L_impl_product (R := R) k) b_impl_product_3 :=
  fn_loop tyE_ok (tab_ok (hT_impl_product k)) A_impl_product (nats []) (loops_nil (R := R) (by kernel_rfl)) h_impl_product_3 (lf_impl_product_3 k) k (fun s K => by kernel_rfl) (fun v K => by kernel_rfl) fun n v K r h => hs_impl_product_3 k n K v ▸ h
theorem hg_impl_product {R : Type} (k : Nat) (K : List SV → List Ob → Option R) : ∀ v w, g_impl_product k v w K = runF (look (T_impl_product k)) tyE A_impl_product (nats []) (L_impl_product k) (Func.ntmps Try.f73) [.tmp 2] (bodyOf Try.f73) [.sl true 3 (.int .i64)] [] [.int .i64] v w K := by
  rintro ⟨x0, _⟩ _
  kernel_rfl
theorem good_impl_product {R : Type} (k : Nat) : Good tyE.P 73 false (F_impl_product (R := R) k) :=
  fn_good tyE_ok (tab_ok (hT_impl_product k)) A_impl_product (nats []) (fn := Try.f73) (c := bodyOf Try.f73) (rs := [.tmp 2]) (by kernel_rfl) (by kernel_rfl) (by kernel_rfl) (by kernel_rfl) (L := L_impl_product k) (loops_one (R := R) (by kernel_rfl) (lo_impl_product_3 k)) [.sl true 3 (.int .i64)] [] [.int .i64] (g_impl_product k) fun v w K r h => hg_impl_product k K v w ▸ h


/-! "loop.example/localglobal/impl.lessTerms" -/
noncomputable def l_impl_lessTerms_3 {R : Type} (k : Nat) : Nat → Int → List Int → Int → Int → (Int → Option R) → Option R
  | 0, _, _, _, _, _ => none
  | n + 1, v1, v2, v3, v4, K0 => cond (decide (v4 < v3)) (cond (decide (0 ≤ v4) && decide (v4 < ((v2).length : Int))) (cond (decide ((List.getD v2 (Int.toNat v4) 0) < 0)) (l_impl_lessTerms_3 k n (IntKind.wrap .i64 (v1 + 1)) v2 v3 (IntKind.wrap .i64 (v4 + 1)) K0) (l_impl_lessTerms_3 k n v1 v2 v3 (IntKind.wrap .i64 (v4 + 1)) K0)) none) (K0 v1)

noncomputable def f_impl_lessTerms {R : Type} (k : Nat) (a0 : List Int) (K : Int → Option R) : Option R :=
  l_impl_lessTerms_3 k k 0 a0 (a0.length : Int) 0 (fun y5 => K y5)


noncomputable def g_impl_lessTerms {R : Type} (k : Nat) (v : HT [.sl true 3 (.int .i64)]) (w : HO []) (K : List SV → List Ob → Option R) : Option R := f_impl_lessTerms k v.1 (fun r0 => K [.int .i64 r0] [])
noncomputable def F_impl_lessTerms {R : Type} (k : Nat) : CF R := wrapF [.sl true 3 (.int .i64)] [] (g_impl_lessTerms k)
noncomputable def A_impl_lessTerms : Ann := { pre := nats [], cut := look [(3, [3, 6, 7, 8])], frz := fun i => match look [] i with | some l => l | none => [], fz := nats [], out := outOf [(0, [3])] (some [2]) }
noncomputable def T_impl_lessTerms {R : Type} (k : Nat) : List (Nat × (Bool × CF R)) := []
noncomputable abbrev h_impl_lessTerms_3 : Shape := ⟨[(3, .int .i64), (6, .sl true 3 (.int .i64)), (7, .int .i64), (8, .int .i64)], []⟩
noncomputable def lf_impl_lessTerms_3 {R : Type} (k : Nat) (n : Nat) (v : h_impl_lessTerms_3.T) (K : Exit → St → Option R) : Option R := l_impl_lessTerms_3 k n v.1.1 v.1.2.1 v.1.2.2.1 v.1.2.2.2.1 (fun y0 => K (.exit 0) ⟨[(3, .s (.int .i64 y0))], []⟩)
noncomputable def L_impl_lessTerms {R : Type} (k : Nat) (c : Code) (s : St) (K : Exit → St → Option R) : Option R := cond (Nat.beq (firstReg c) 3) ((h_impl_lessTerms_3.dec (cutAt A_impl_lessTerms c s)).bind fun v => lf_impl_lessTerms_3 k k v K) (none)
theorem hT_impl_lessTerms {R : Type} (k : Nat) : TabOk tyE.P (T_impl_lessTerms (R := R) k) := trivial
noncomputable def b_impl_lessTerms_3 : Code := nthLoop (bodyOf Try.f82) 0
theorem hs_impl_lessTerms_3 {R : Type} (k : Nat) (n : Nat) (K : Exit → St → Option R) : ∀ v, lf_impl_lessTerms_3 k (n + 1) v K = evk (look (T_impl_lessTerms k)) tyE A_impl_lessTerms (Func.ntmps Try.f82) (drawn (look (T_impl_lessTerms k)) tyE A_impl_lessTerms (nats []) (Func.ntmps Try.f82)) (L_impl_lessTerms k) b_impl_lessTerms_3 (h_impl_lessTerms_3.enc v) (loopK A_impl_lessTerms b_impl_lessTerms_3 h_impl_lessTerms_3.dec (lf_impl_lessTerms_3 k) n K) := by
  rintro ⟨⟨x0, x1, x2, x3, _⟩, _⟩
  kernel_rfl
theorem lo_impl_lessTerms_3 {R : Type} (k : Nat) : LoopOk tyE.P (Func.ntmps Try.f82) (L_impl_lessTerms (R := R) k) b_impl_lessTerms_3 :=
  fn_loop tyE_ok (tab_ok (hT_impl_lessTerms k)) A_impl_lessTerms (nats []) (loops_nil (R := R) (by kernel_rfl)) h_impl_lessTerms_3 (lf_impl_lessTerms_3 k) k (fun s K => by kernel_rfl) (fun v K => by kernel_rfl) fun n v K r h => hs_impl_lessTerms_3 k n K v ▸ h
theorem hg_impl_lessTerms {R : Type} (k : Nat) (K : List SV → List Ob → Option R) : ∀ v w, g_impl_lessTerms k v w K = runF (look (T_impl_lessTerms k)) tyE A_impl_lessTerms (nats []) (L_impl_lessTerms k) (Func.ntmps Try.f82) [.tmp 2] (bodyOf Try.f82) [.sl true 3 (.int .i64)] [] [.int .i64] v w K := by
  rintro ⟨x0, _⟩ _
  kernel_rfl
theorem good_impl_lessTerms {R : Type} (k : Nat) : Good tyE.P 82 false (F_impl_lessTerms (R := R) k) :=
  fn_good tyE_ok (tab_ok (hT_impl_lessTerms k)) A_impl_lessTerms (nats []) (fn := Try.f82) (c := bodyOf Try.f82) (rs := [.tmp 2]) (by kernel_rfl) (by kernel_rfl) (by kernel_rfl) (by kernel_rfl) (L := L_impl_lessTerms k) (loops_one (R := R) (by kernel_rfl) (lo_impl_lessTerms_3 k)) [.sl true 3 (.int .i64)] [] [.int .i64] (g_impl_lessTerms k) fun v w K r h => hg_impl_lessTerms k K v w ▸ h


/-! "loop.example/localglobal/impl.rest" -/
noncomputable def f_impl_rest {R : Type} (k : Nat) (a0 : Int) (a1 : Int) (K : Int → Option R) : Option R :=
  cond (!decide (a1 = 0)) (cond (!decide (a1 = 0)) (K (Int.tmod (IntKind.wrap .i64 ((Int.tmod a0 a1) + a1)) a1)) none) none


noncomputable def g_impl_rest {R : Type} (k : Nat) (v : HT [.int .i64, .int .i64]) (w : HO []) (K : List SV → List Ob → Option R) : Option R := f_impl_rest k v.1 v.2.1 (fun r0 => K [.int .i64 r0] [])
noncomputable def F_impl_rest {R : Type} (k : Nat) : CF R := wrapF [.int .i64, .int .i64] [] (g_impl_rest k)
noncomputable def A_impl_rest : Ann := { pre := nats [], cut := look [], frz := fun i => match look [] i with | some l => l | none => [], fz := nats [], out := outOf [] (some [4]) }
noncomputable def T_impl_rest {R : Type} (k : Nat) : List (Nat × (Bool × CF R)) := []
noncomputable def L_impl_rest {R : Type} (k : Nat) (c : Code) (s : St) (K : Exit → St → Option R) : Option R := none
theorem hT_impl_rest {R : Type} (k : Nat) : TabOk tyE.P (T_impl_rest (R := R) k) := trivial
theorem hg_impl_rest {R : Type} (k : Nat) (K : List SV → List Ob → Option R) : ∀ v w, g_impl_rest k v w K = runF (look (T_impl_rest k)) tyE A_impl_rest (nats []) (L_impl_rest k) (Func.ntmps Try.f98) [.tmp 4] (bodyOf Try.f98) [.int .i64, .int .i64] [] [.int .i64] v w K := by
  rintro ⟨x0, x1, _⟩ _
  kernel_rfl
theorem good_impl_rest {R : Type} (k : Nat) : Good tyE.P 98 false (F_impl_rest (R := R) k) :=
  fn_good tyE_ok (tab_ok (hT_impl_rest k)) A_impl_rest (nats []) (fn := Try.f98) (c := bodyOf Try.f98) (rs := [.tmp 4]) (by kernel_rfl) (by kernel_rfl) (by kernel_rfl) (by kernel_rfl) (L := L_impl_rest k) (loops_nil (R := R) (by kernel_rfl)) [.int .i64, .int .i64] [] [.int .i64] (g_impl_rest k) fun v w K r h => hg_impl_rest k K v w ▸ h


/-! "loop.example/localglobal/impl.residue" -/
noncomputable def l_impl_residue_5 {R : Type} (k : Nat) : Nat → Int → Int → Int → (Int → Option R) → (Option R) → Option R
  | 0, _, _, _, _, _ => none
  | n + 1, v2, v3, v4, K0, K1 => cond (decide (v4 ≤ (IntKind.wrap .i64 (Int.tdiv v2 2)))) (cond (!decide (v2 = 0)) (cond (decide ((Int.tmod (IntKind.wrap .i64 (v4 * v4)) v2) = v3)) (K0 1) (l_impl_residue_5 k n v2 v3 (IntKind.wrap .i64 (v4 + 1)) K0 K1)) none) (K1)

noncomputable def f_impl_residue {R : Type} (k : Nat) (a0 : Int) (a1 : Int) (K : Int → Option R) : Option R :=
  f_impl_rest k a0 a1 (fun r1 => cond (decide (r1 = 0)) (K 0) (l_impl_residue_5 k k a1 r1 1 (fun y5 => K y5) (K (-1))))


noncomputable def g_impl_residue {R : Type} (k : Nat) (v : HT [.int .i64, .int .i64]) (w : HO []) (K : List SV → List Ob → Option R) : Option R := f_impl_residue k v.1 v.2.1 (fun r0 => K [.int .i64 r0] [])
noncomputable def F_impl_residue {R : Type} (k : Nat) : CF R := wrapF [.int .i64, .int .i64] [] (g_impl_residue k)
noncomputable def A_impl_residue : Ann := { pre := nats [], cut := look [(5, [1, 5, 6])], frz := fun i => match look [] i with | some l => l | none => [], fz := nats [], out := outOf [(0, [])] (some [4]) }
noncomputable def T_impl_residue {R : Type} (k : Nat) : List (Nat × (Bool × CF R)) := [(98, (false, (F_impl_rest k)))]
noncomputable abbrev h_impl_residue_5 : Shape := ⟨[(1, .int .i64), (5, .int .i64), (6, .int .i64)], []⟩
noncomputable def lf_impl_residue_5 {R : Type} (k : Nat) (n : Nat) (v : h_impl_residue_5.T) (K : Exit → St → Option R) : Option R := l_impl_residue_5 k n v.1.1 v.1.2.1 v.1.2.2.1 (fun y0 => K (.ret) ⟨[(4, .s (.int .i64 y0))], []⟩) (K (.exit 0) ⟨[], []⟩)
noncomputable def L_impl_residue {R : Type} (k : Nat) (c : Code) (s : St) (K : Exit → St → Option R) : Option R := cond (Nat.beq (firstReg c) 5) ((h_impl_residue_5.dec (cutAt A_impl_residue c s)).bind fun v => lf_impl_residue_5 k k v K) (none)
theorem hT_impl_residue {R : Type} (k : Nat) : TabOk tyE.P (T_impl_residue (R := R) k) := ⟨(good_impl_rest k), trivial⟩
noncomputable def b_impl_residue_5 : Code := nthLoop (bodyOf Try.f99) 0
theorem hs_impl_residue_5 {R : Type} (k : Nat) (n : Nat) (K : Exit → St → Option R) : ∀ v, lf_impl_residue_5 k (n + 1) v K = evk (look (T_impl_residue k)) tyE A_impl_residue (Func.ntmps Try.f99) (drawn (look (T_impl_residue k)) tyE A_impl_residue (nats []) (Func.ntmps Try.f99)) (L_impl_residue k) b_impl_residue_5 (h_impl_residue_5.enc v) (loopK A_impl_residue b_impl_residue_5 h_impl_residue_5.dec (lf_impl_residue_5 k) n K) := by
  rintro ⟨⟨x0, x1, x2, _⟩, _⟩
  kernel_rfl
theorem lo_impl_residue_5 {R : Type} (k : Nat) : LoopOk tyE.P (Func.ntmps Try.f99) (L_impl_residue (R := R) k) b_impl_residue_5 :=
  fn_loop tyE_ok (tab_ok (hT_impl_residue k)) A_impl_residue (nats []) (loops_nil (R := R) (by kernel_rfl)) h_impl_residue_5 (lf_impl_residue_5 k) k (fun s K => by kernel_rfl) (fun v K => by kernel_rfl) fun n v K r h => hs_impl_residue_5 k n K v ▸ h
theorem hg_impl_residue {R : Type} (k : Nat) (K : List SV → List Ob → Option R) : ∀ v w, g_impl_residue k v w K = runF (look (T_impl_residue k)) tyE A_impl_residue (nats []) (L_impl_residue k) (Func.ntmps Try.f99) [.tmp 4] (bodyOf Try.f99) [.int .i64, .int .i64] [] [.int .i64] v w K := by
  rintro ⟨x0, x1, _⟩ _
  kernel_rfl
theorem good_impl_residue {R : Type} (k : Nat) : Good tyE.P 99 false (F_impl_residue (R := R) k) :=
  fn_good tyE_ok (tab_ok (hT_impl_residue k)) A_impl_residue (nats []) (fn := Try.f99) (c := bodyOf Try.f99) (rs := [.tmp 4]) (by kernel_rfl) (by kernel_rfl) (by kernel_rfl) (by kernel_rfl) (L := L_impl_residue k) (loops_one (R := R) (by kernel_rfl) (lo_impl_residue_5 k)) [.int .i64, .int .i64] [] [.int .i64] (g_impl_residue k) fun v w K r h => hg_impl_residue k K v w ▸ h


/-! "loop.example/localglobal/impl.localSquare" -/
noncomputable def f_impl_localSquare {R : Type} (k : Nat) (a0 : Int) (a1 : Int) (K : Bool → Option R) : Option R :=
  cond (decide (a1 = 0)) (K (decide (0 < a0))) (f_impl_split k a0 a1 (fun r1 r2 => cond (!decide ((Int.tmod r1 2) = 0)) (K false) (cond (decide (a1 = 2)) (f_impl_rest k r2 8 (fun r3 => K (decide (r3 = 1)))) (f_impl_residue k r2 a1 (fun r4 => K (decide (r4 = 1)))))))


noncomputable def g_impl_localSquare {R : Type} (k : Nat) (v : HT [.int .i64, .int .i64]) (w : HO []) (K : List SV → List Ob → Option R) : Option R := f_impl_localSquare k v.1 v.2.1 (fun r0 => K [.bool r0] [])
noncomputable def F_impl_localSquare {R : Type} (k : Nat) : CF R := wrapF [.int .i64, .int .i64] [] (g_impl_localSquare k)
noncomputable def A_impl_localSquare : Ann := { pre := nats [], cut := look [], frz := fun i => match look [] i with | some l => l | none => [], fz := nats [], out := outOf [] (some [4]) }
noncomputable def T_impl_localSquare {R : Type} (k : Nat) : List (Nat × (Bool × CF R)) := [(99, (false, (F_impl_residue k))), (98, (false, (F_impl_rest k))), (94, (false, (F_impl_split k)))]
noncomputable def L_impl_localSquare {R : Type} (k : Nat) (c : Code) (s : St) (K : Exit → St → Option R) : Option R := none
theorem hT_impl_localSquare {R : Type} (k : Nat) : TabOk tyE.P (T_impl_localSquare (R := R) k) := ⟨(good_impl_residue k), (good_impl_rest k), (good_impl_split k), trivial⟩
theorem hg_impl_localSquare {R : Type} (k : Nat) (K : List SV → List Ob → Option R) : ∀ v w, g_impl_localSquare k v w K = runF (look (T_impl_localSquare k)) tyE A_impl_localSquare (nats []) (L_impl_localSquare k) (Func.ntmps Try.f83) [.tmp 4] (bodyOf Try.f83) [.int .i64, .int .i64] [] [.bool] v w K := by
  rintro ⟨x0, x1, _⟩ _
  kernel_rfl
theorem good_impl_localSquare {R : Type} (k : Nat) : Good tyE.P 83 false (F_impl_localSquare (R := R) k) :=
  fn_good tyE_ok (tab_ok (hT_impl_localSquare k)) A_impl_localSquare (nats []) (fn := Try.f83) (c := bodyOf Try.f83) (rs := [.tmp 4]) (by kernel_rfl) (by kernel_rfl) (by kernel_rfl) (by kernel_rfl) (L := L_impl_localSquare k) (loops_nil (R := R) (by kernel_rfl)) [.int .i64, .int .i64] [] [.bool] (g_impl_localSquare k) fun v w K r h => hg_impl_localSquare k K v w ▸ h


/-! "loop.example/localglobal/impl.power" -/
noncomputable def l_impl_power_3 {R : Type} (k : Nat) : Nat → Int → Int → Int → Int → (Int → Option R) → Option R
  | 0, _, _, _, _, _ => none
  | n + 1, v1, v2, v3, v4, K0 => cond (decide (v4 < v3)) (l_impl_power_3 k n v1 (IntKind.wrap .i64 (v2 * v1)) v3 (IntKind.wrap .i64 (v4 + 1)) K0) (K0 v2)

noncomputable def f_impl_power {R : Type} (k : Nat) (a0 : Int) (a1 : Int) (K : Int → Option R) : Option R :=
  l_impl_power_3 k k a0 1 a1 0 (fun y5 => K y5)


noncomputable def g_impl_power {R : Type} (k : Nat) (v : HT [.int .i64, .int .i64]) (w : HO []) (K : List SV → List Ob → Option R) : Option R := f_impl_power k v.1 v.2.1 (fun r0 => K [.int .i64 r0] [])
noncomputable def F_impl_power {R : Type} (k : Nat) : CF R := wrapF [.int .i64, .int .i64] [] (g_impl_power k)
noncomputable def A_impl_power : Ann := { pre := nats [], cut := look [(3, [0, 5, 6, 7])], frz := fun i => match look [] i with | some l => l | none => [], fz := nats [], out := outOf [(0, [5])] (some [4]) }
noncomputable def T_impl_power {R : Type} (k : Nat) : List (Nat × (Bool × CF R)) := []
noncomputable abbrev h_impl_power_3 : Shape := ⟨[(0, .int .i64), (5, .int .i64), (6, .int .i64), (7, .int .i64)], []⟩
noncomputable def lf_impl_power_3 {R : Type} (k : Nat) (n : Nat) (v : h_impl_power_3.T) (K : Exit → St → Option R) : Option R := l_impl_power_3 k n v.1.1 v.1.2.1 v.1.2.2.1 v.1.2.2.2.1 (fun y0 => K (.exit 0) ⟨[(5, .s (.int .i64 y0))], []⟩)
noncomputable def L_impl_power {R : Type} (k : Nat) (c : Code) (s : St) (K : Exit → St → Option R) : Option R := cond (Nat.beq (firstReg c) 3) ((h_impl_power_3.dec (cutAt A_impl_power c s)).bind fun v => lf_impl_power_3 k k v K) (none)
theorem hT_impl_power {R : Type} (k : Nat) : TabOk tyE.P (T_impl_power (R := R) k) := trivial
noncomputable def b_impl_power_3 : Code := nthLoop (bodyOf Try.f103) 0
theorem hs_impl_power_3 {R : Type} (k : Nat) (n : Nat) (K : Exit → St → Option R) : ∀ v, lf_impl_power_3 k (n + 1) v K = evk (look (T_impl_power k)) tyE A_impl_power (Func.ntmps Try.f103) (drawn (look (T_impl_power k)) tyE A_impl_power (nats []) (Func.ntmps Try.f103)) (L_impl_power k) b_impl_power_3 (h_impl_power_3.enc v) (loopK A_impl_power b_impl_power_3 h_impl_power_3.dec (lf_impl_power_3 k) n K) := by
  rintro ⟨⟨x0, x1, x2, x3, _⟩, _⟩
  kernel_rfl
theorem lo_impl_power_3 {R : Type} (k : Nat) : LoopOk tyE.P (Func.ntmps Try.f103) (L_impl_power (R := R) k) b_impl_power_3 :=
  fn_loop tyE_ok (tab_ok (hT_impl_power k)) A_impl_power (nats []) (loops_nil (R := R) (by kernel_rfl)) h_impl_power_3 (lf_impl_power_3 k) k (fun s K => by kernel_rfl) (fun v K => by kernel_rfl) fun n v K r h => hs_impl_power_3 k n K v ▸ h
theorem hg_impl_power {R : Type} (k : Nat) (K : List SV → List Ob → Option R) : ∀ v w, g_impl_power k v w K = runF (look (T_impl_power k)) tyE A_impl_power (nats []) (L_impl_power k) (Func.ntmps Try.f103) [.tmp 4] (bodyOf Try.f103) [.int .i64, .int .i64] [] [.int .i64] v w K := by
  rintro ⟨x0, x1, _⟩ _
  kernel_rfl
theorem good_impl_power {R : Type} (k : Nat) : Good tyE.P 103 false (F_impl_power (R := R) k) :=
  fn_good tyE_ok (tab_ok (hT_impl_power k)) A_impl_power (nats []) (fn := Try.f103) (c := bodyOf Try.f103) (rs := [.tmp 4]) (by kernel_rfl) (by kernel_rfl) (by kernel_rfl) (by kernel_rfl) (L := L_impl_power k) (loops_one (R := R) (by kernel_rfl) (lo_impl_power_3 k)) [.int .i64, .int .i64] [] [.int .i64] (g_impl_power k) fun v w K r h => hg_impl_power k K v w ▸ h


/-! "loop.example/localglobal/impl.symbol" -/
noncomputable def f_impl_symbol {R : Type} (k : Nat) (a0 : Int) (a1 : Int) (a2 : Int) (K : Int → Option R) : Option R :=
  cond (decide (a2 = 0)) (cond (decide (a0 < 0)) (cond (decide (a1 < 0)) (K (-1)) (K 1)) (K 1)) (f_impl_split k a0 a2 (fun r1 r2 => f_impl_split k a1 a2 (fun r3 r4 => cond (!decide (a2 = 2)) (f_impl_power k (-1) (Int.tmod (IntKind.wrap .i64 (Int.tdiv (IntKind.wrap .i64 ((IntKind.wrap .i64 (r1 * r3)) * (IntKind.wrap .i64 (a2 - 1)))) 2)) 2) (fun r5 => f_impl_residue k r2 a2 (fun r6 => f_impl_power k r6 (Int.tmod r3 2) (fun r7 => f_impl_residue k r4 a2 (fun r8 => f_impl_power k r8 (Int.tmod r1 2) (fun r9 => K (IntKind.wrap .i64 ((IntKind.wrap .i64 (r5 * r7)) * r9)))))))) (f_impl_rest k r2 8 (fun r10 => f_impl_rest k r4 8 (fun r11 => f_impl_power k (-1) (Int.tmod (IntKind.wrap .i64 ((IntKind.wrap .i64 ((IntKind.wrap .i64 ((IntKind.wrap .i64 (Int.tdiv (IntKind.wrap .i64 (r10 - 1)) 2)) * (IntKind.wrap .i64 (Int.tdiv (IntKind.wrap .i64 (r11 - 1)) 2)))) + (IntKind.wrap .i64 (Int.tdiv (IntKind.wrap .i64 (r1 * (IntKind.wrap .i64 ((IntKind.wrap .i64 (r11 * r11)) - 1)))) 8)))) + (IntKind.wrap .i64 (Int.tdiv (IntKind.wrap .i64 (r3 * (IntKind.wrap .i64 ((IntKind.wrap .i64 (r10 * r10)) - 1)))) 8)))) 2) (fun r12 => K r12)))))))


noncomputable def g_impl_symbol {R : Type} (k : Nat) (v : HT [.int .i64, .int .i64, .int .i64]) (w : HO []) (K : List SV → List Ob → Option R) : Option R := f_impl_symbol k v.1 v.2.1 v.2.2.1 (fun r0 => K [.int .i64 r0] [])
noncomputable def F_impl_symbol {R : Type} (k : Nat) : CF R := wrapF [.int .i64, .int .i64, .int .i64] [] (g_impl_symbol k)
noncomputable def A_impl_symbol : Ann := { pre := nats [], cut := look [], frz := fun i => match look [] i with | some l => l | none => [], fz := nats [], out := outOf [] (some [6]) }
noncomputable def T_impl_symbol {R : Type} (k : Nat) : List (Nat × (Bool × CF R)) := [(103, (false, (F_impl_power k))), (99, (false, (F_impl_residue k))), (98, (false, (F_impl_rest k))), (94, (false, (F_impl_split k)))]
noncomputable def L_impl_symbol {R : Type} (k : Nat) (c : Code) (s : St) (K : Exit → St → Option R) : Option R := none
theorem hT_impl_symbol {R : Type} (k : Nat) : TabOk tyE.P (T_impl_symbol (R := R) k) := ⟨(good_impl_power k), (good_impl_residue k), (good_impl_rest k), (good_impl_split k), trivial⟩
theorem hg_impl_symbol {R : Type} (k : Nat) (K : List SV → List Ob → Option R) : ∀ v w, g_impl_symbol k v w K = runF (look (T_impl_symbol k)) tyE A_impl_symbol (nats []) (L_impl_symbol k) (Func.ntmps Try.f89) [.tmp 6] (bodyOf Try.f89) [.int .i64, .int .i64, .int .i64] [] [.int .i64] v w K := by
  rintro ⟨x0, x1, x2, _⟩ _
  kernel_rfl
theorem good_impl_symbol {R : Type} (k : Nat) : Good tyE.P 89 false (F_impl_symbol (R := R) k) :=
  fn_good tyE_ok (tab_ok (hT_impl_symbol k)) A_impl_symbol (nats []) (fn := Try.f89) (c := bodyOf Try.f89) (rs := [.tmp 6]) (by kernel_rfl) (by kernel_rfl) (by kernel_rfl) (by kernel_rfl) (L := L_impl_symbol k) (loops_nil (R := R) (by kernel_rfl)) [.int .i64, .int .i64, .int .i64] [] [.int .i64] (g_impl_symbol k) fun v w K r h => hg_impl_symbol k K v w ▸ h


/-! "loop.example/localglobal/impl.invariant" -/
noncomputable def l_impl_invariant_6 {R : Type} (k : Nat) : Nat → List Int → Int → Int → Int → List Int → Int → Int → List Int → Int → Int → (List Int → Int → Int → List Int → Int → Int → Option R) → Option R
  | 0, _, _, _, _, _, _, _, _, _, _, _ => none
  | n + 1, v7, v8, v9, v10, v11, v12, v13, v14, v15, v16, K0 => cond (decide (v16 < v15)) (cond (decide (0 ≤ v16) && decide (v16 < ((v14).length : Int))) (f_impl_symbol k v10 (List.getD v14 (Int.toNat v16) 0) v8 (fun r17 => l_impl_invariant_6 k n v7 v8 (IntKind.wrap .i64 (v9 * r17)) v10 v11 v12 v13 v14 v15 (IntKind.wrap .i64 (v16 + 1)) K0)) none) (K0 v7 v8 v9 v11 v12 v13)

noncomputable def l_impl_invariant_3 {R : Type} (k : Nat) : Nat → List Int → Int → Int → List Int → Int → Int → (Int → Option R) → Option R
  | 0, _, _, _, _, _, _, _ => none
  | n + 1, v1, v2, v3, v4, v5, v6, K0 => cond (decide (v6 < v5)) (cond (decide (0 ≤ v6) && decide (v6 < ((v4).length : Int))) (cond (decide (0 ≤ 0) && decide (0 ≤ v6) && decide (v6 ≤ (v1.length : Int))) (l_impl_invariant_6 k k v1 v2 v3 (List.getD v4 (Int.toNat v6) 0) v4 v5 v6 ((v1.take (Int.toNat v6)).drop (Int.toNat 0)) (((v1.take (Int.toNat v6)).drop (Int.toNat 0)).length : Int) 0 (fun y18 y19 y20 y21 y22 y23 => l_impl_invariant_3 k n y18 y19 y20 y21 y22 (IntKind.wrap .i64 (y23 + 1)) K0)) none) none) (K0 v3)

noncomputable def f_impl_invariant {R : Type} (k : Nat) (a0 : List Int) (a1 : Int) (K : Int → Option R) : Option R :=
  l_impl_invariant_3 k k a0 a1 1 a0 (a0.length : Int) 0 (fun y24 => K y24)


noncomputable def g_impl_invariant {R : Type} (k : Nat) (v : HT [.sl true 3 (.int .i64), .int .i64]) (w : HO []) (K : List SV → List Ob → Option R) : Option R := f_impl_invariant k v.1 v.2.1 (fun r0 => K [.int .i64 r0] [])
noncomputable def F_impl_invariant {R : Type} (k : Nat) : CF R := wrapF [.sl true 3 (.int .i64), .int .i64] [] (g_impl_invariant k)
noncomputable def A_impl_invariant : Ann := { pre := nats [], cut := look [(3, [0, 1, 5, 10, 11, 12]), (6, [0, 1, 5, 7, 10, 11, 12, 19, 20, 21])], frz := fun i => match look [] i with | some l => l | none => [], fz := nats [], out := outOf [(0, [5]), (2, [0, 1, 5, 10, 11, 12])] (some [4]) }
noncomputable def T_impl_invariant {R : Type} (k : Nat) : List (Nat × (Bool × CF R)) := [(89, (false, (F_impl_symbol k)))]
noncomputable abbrev h_impl_invariant_3 : Shape := ⟨[(0, .sl true 3 (.int .i64)), (1, .int .i64), (5, .int .i64), (10, .sl true 3 (.int .i64)), (11, .int .i64), (12, .int .i64)], []⟩
noncomputable def lf_impl_invariant_3 {R : Type} (k : Nat) (n : Nat) (v : h_impl_invariant_3.T) (K : Exit → St → Option R) : Option R := l_impl_invariant_3 k n v.1.1 v.1.2.1 v.1.2.2.1 v.1.2.2.2.1 v.1.2.2.2.2.1 v.1.2.2.2.2.2.1 (fun y0 => K (.exit 0) ⟨[(5, .s (.int .i64 y0))], []⟩)
noncomputable abbrev h_impl_invariant_6 : Shape := ⟨[(0, .sl true 3 (.int .i64)), (1, .int .i64), (5, .int .i64), (7, .int .i64), (10, .sl true 3 (.int .i64)), (11, .int .i64), (12, .int .i64), (19, .sl true 3 (.int .i64)), (20, .int .i64), (21, .int .i64)], []⟩
noncomputable def lf_impl_invariant_6 {R : Type} (k : Nat) (n : Nat) (v : h_impl_invariant_6.T) (K : Exit → St → Option R) : Option R := l_impl_invariant_6 k n v.1.1 v.1.2.1 v.1.2.2.1 v.1.2.2.2.1 v.1.2.2.2.2.1 v.1.2.2.2.2.2.1 v.1.2.2.2.2.2.2.1 v.1.2.2.2.2.2.2.2.1 v.1.2.2.2.2.2.2.2.2.1 v.1.2.2.2.2.2.2.2.2.2.1 (fun y0 y1 y2 y3 y4 y5 => K (.exit 2) ⟨[(0, .s (.sl true 3 (.int .i64) y0)), (1, .s (.int .i64 y1)), (5, .s (.int .i64 y2)), (10, .s (.sl true 3 (.int .i64) y3)), (11, .s (.int .i64 y4)), (12, .s (.int .i64 y5))], []⟩)
noncomputable def L_impl_invariant {R : Type} (k : Nat) (c : Code) (s : St) (K : Exit → St → Option R) : Option R := cond (Nat.beq (firstReg c) 6) ((h_impl_invariant_6.dec (cutAt A_impl_invariant c s)).bind fun v => lf_impl_invariant_6 k k v K) (cond (Nat.beq (firstReg c) 3) ((h_impl_invariant_3.dec (cutAt A_impl_invariant c s)).bind fun v => lf_impl_invariant_3 k k v K) (none))
theorem hT_impl_invariant {R : Type} (k : Nat) : TabOk tyE.P (T_impl_invariant (R := R) k) := ⟨(good_impl_symbol k), trivial⟩
noncomputable def b_impl_invariant_3 : Code := nthLoop (bodyOf Try.f84) 0
noncomputable def b_impl_invariant_6 : Code := nthLoop (b_impl_invariant_3) 0
theorem hs_impl_invariant_6 {R : Type} (k : Nat) (n : Nat) (K : Exit → St → Option R) : ∀ v, lf_impl_invariant_6 k (n + 1) v K = evk (look (T_impl_invariant k)) tyE A_impl_invariant (Func.ntmps Try.f84) (drawn (look (T_impl_invariant k)) tyE A_impl_invariant (nats []) (Func.ntmps Try.f84)) (L_impl_invariant k) b_impl_invariant_6 (h_impl_invariant_6.enc v) (loopK A_impl_invariant b_impl_invariant_6 h_impl_invariant_6.dec (lf_impl_invariant_6 k) n K) := by
  rintro ⟨⟨x0, x1, x2, x3, x4, x5, x6, x7, x8, x9, _⟩, _⟩
  kernel_rfl
theorem lo_impl_invariant_6 {R : Type} (k : Nat) : LoopOk tyE.P (Func.ntmps Try.f84) (L_impl_invariant (R := R) k) b_impl_invariant_6 :=
  fn_loop tyE_ok (tab_ok (hT_impl_invariant k)) A_impl_invariant (nats []) (loops_nil (R := R) (by kernel_rfl)) h_impl_invariant_6 (lf_impl_invariant_6 k) k (fun s K => by kernel_rfl) (fun v K => by kernel_rfl) fun n v K r h => hs_impl_invariant_6 k n K v ▸ h
theorem hs_impl_invariant_3 {R : Type} (k : Nat) (n : Nat) (K : Exit → St → Option R) : ∀ v, lf_impl_invariant_3 k (n + 1) v K = evk (look (T_impl_invariant k)) tyE A_impl_invariant (Func.ntmps Try.f84) (drawn (look (T_impl_invariant k)) tyE A_impl_invariant (nats []) (Func.ntmps Try.f84)) (L_impl_invariant k) b_impl_invariant_3 (h_impl_invariant_3.enc v) (loopK A_impl_invariant b_impl_invariant_3 h_impl_invariant_3.dec (lf_impl_invariant_3 k) n K) := by
  rintro ⟨⟨x0, x1, x2, x3, x4, x5, _⟩, _⟩
  kernel_rfl
theorem lo_impl_invariant_3 {R : Type} (k : Nat) : LoopOk tyE.P (Func.ntmps Try.f84) (L_impl_invariant (R := R) k) b_impl_invariant_3 :=
  fn_loop tyE_ok (tab_ok (hT_impl_invariant k)) A_impl_invariant (nats []) (loops_one (R := R) (by kernel_rfl) (lo_impl_invariant_6 k)) h_impl_invariant_3 (lf_impl_invariant_3 k) k (fun s K => by kernel_rfl) (fun v K => by kernel_rfl) fun n v K r h => hs_impl_invariant_3 k n K v ▸ h
theorem hg_impl_invariant {R : Type} (k : Nat) (K : List SV → List Ob → Option R) : ∀ v w, g_impl_invariant k v w K = runF (look (T_impl_invariant k)) tyE A_impl_invariant (nats []) (L_impl_invariant k) (Func.ntmps Try.f84) [.tmp 4] (bodyOf Try.f84) [.sl true 3 (.int .i64), .int .i64] [] [.int .i64] v w K := by
  rintro ⟨x0, x1, _⟩ _
  kernel_rfl
theorem good_impl_invariant {R : Type} (k : Nat) : Good tyE.P 84 false (F_impl_invariant (R := R) k) :=
  fn_good tyE_ok (tab_ok (hT_impl_invariant k)) A_impl_invariant (nats []) (fn := Try.f84) (c := bodyOf Try.f84) (rs := [.tmp 4]) (by kernel_rfl) (by kernel_rfl) (by kernel_rfl) (by kernel_rfl) (L := L_impl_invariant k) (loops_one (R := R) (by kernel_rfl) (lo_impl_invariant_3 k)) [.sl true 3 (.int .i64), .int .i64] [] [.int .i64] (g_impl_invariant k) fun v w K r h => hg_impl_invariant k K v w ▸ h


/-! "loop.example/localglobal/impl.vanishes" -/
noncomputable def f_impl_vanishes {R : Type} (k : Nat) (a0 : List Int) (a1 : Int) (K : Bool → Option R) : Option R :=
  f_impl_product k a0 (fun r1 => cond (decide (a1 = 0)) (f_impl_lessTerms k a0 (fun r2 => cond (decide (0 < r2)) (K (decide (r2 < (a0.length : Int)))) (K false))) (cond (decide ((a0.length : Int) = 2)) (f_impl_localSquare k (IntKind.wrap .i64 (0 - r1)) a1 (fun r3 => K r3)) (cond (decide ((a0.length : Int) = 3)) (f_impl_invariant k a0 a1 (fun r4 => f_impl_symbol k (-1) (IntKind.wrap .i64 (0 - r1)) a1 (fun r5 => K (decide (r4 = r5))))) (cond (decide ((a0.length : Int) = 4)) (f_impl_localSquare k r1 a1 (fun r6 => cond (!(r6)) (K true) (f_impl_invariant k a0 a1 (fun r7 => f_impl_symbol k (-1) (-1) a1 (fun r8 => K (decide (r7 = r8))))))) (K false)))))


noncomputable def g_impl_vanishes {R : Type} (k : Nat) (v : HT [.sl true 3 (.int .i64), .int .i64]) (w : HO []) (K : List SV → List Ob → Option R) : Option R := f_impl_vanishes k v.1 v.2.1 (fun r0 => K [.bool r0] [])
noncomputable def F_impl_vanishes {R : Type} (k : Nat) : CF R := wrapF [.sl true 3 (.int .i64), .int .i64] [] (g_impl_vanishes k)
noncomputable def A_impl_vanishes : Ann := { pre := nats [], cut := look [], frz := fun i => match look [] i with | some l => l | none => [], fz := nats [], out := outOf [] (some [4]) }
noncomputable def T_impl_vanishes {R : Type} (k : Nat) : List (Nat × (Bool × CF R)) := [(84, (false, (F_impl_invariant k))), (82, (false, (F_impl_lessTerms k))), (83, (false, (F_impl_localSquare k))), (73, (false, (F_impl_product k))), (89, (false, (F_impl_symbol k)))]
noncomputable def L_impl_vanishes {R : Type} (k : Nat) (c : Code) (s : St) (K : Exit → St → Option R) : Option R := none
theorem hT_impl_vanishes {R : Type} (k : Nat) : TabOk tyE.P (T_impl_vanishes (R := R) k) := ⟨(good_impl_invariant k), (good_impl_lessTerms k), (good_impl_localSquare k), (good_impl_product k), (good_impl_symbol k), trivial⟩
theorem hg_impl_vanishes {R : Type} (k : Nat) (K : List SV → List Ob → Option R) : ∀ v w, g_impl_vanishes k v w K = runF (look (T_impl_vanishes k)) tyE A_impl_vanishes (nats []) (L_impl_vanishes k) (Func.ntmps Try.f72) [.tmp 4] (bodyOf Try.f72) [.sl true 3 (.int .i64), .int .i64] [] [.bool] v w K := by
  rintro ⟨x0, x1, _⟩ _
  kernel_rfl
theorem good_impl_vanishes {R : Type} (k : Nat) : Good tyE.P 72 false (F_impl_vanishes (R := R) k) :=
  fn_good tyE_ok (tab_ok (hT_impl_vanishes k)) A_impl_vanishes (nats []) (fn := Try.f72) (c := bodyOf Try.f72) (rs := [.tmp 4]) (by kernel_rfl) (by kernel_rfl) (by kernel_rfl) (by kernel_rfl) (L := L_impl_vanishes k) (loops_nil (R := R) (by kernel_rfl)) [.sl true 3 (.int .i64), .int .i64] [] [.bool] (g_impl_vanishes k) fun v w K r h => hg_impl_vanishes k K v w ▸ h


/-! "loop.example/localglobal/impl.represents" -/
noncomputable def f_impl_represents {R : Type} (k : Nat) (a0 : List Int) (a1 : Int) (a2 : Int) (K : Bool → Option R) : Option R :=
  cond (decide ((a0.length : Int) = 4)) (cond (!decide (a2 = 0)) (K true) (f_slices_Clone k a0 (fun r1 => cond (Nat.ble (r1.length + 1) LIM) (f_impl_vanishes k (r1 ++ [(IntKind.wrap .i64 (0 - a1))]) a2 (fun r2 => K r2)) none))) (f_slices_Clone k a0 (fun r3 => cond (Nat.ble (r3.length + 1) LIM) (f_impl_vanishes k (r3 ++ [(IntKind.wrap .i64 (0 - a1))]) a2 (fun r4 => K r4)) none))


noncomputable def g_impl_represents {R : Type} (k : Nat) (v : HT [.sl true 3 (.int .i64), .int .i64, .int .i64]) (w : HO []) (K : List SV → List Ob → Option R) : Option R := f_impl_represents k v.1 v.2.1 v.2.2.1 (fun r0 => K [.bool r0] [])
noncomputable def F_impl_represents {R : Type} (k : Nat) : CF R := wrapF [.sl true 3 (.int .i64), .int .i64, .int .i64] [] (g_impl_represents k)
noncomputable def A_impl_represents : Ann := { pre := nats [], cut := look [], frz := fun i => match look [] i with | some l => l | none => [], fz := nats [], out := outOf [] (some [6]) }
noncomputable def T_impl_represents {R : Type} (k : Nat) : List (Nat × (Bool × CF R)) := [(72, (false, (F_impl_vanishes k))), (58, (false, (F_slices_Clone k)))]
noncomputable def L_impl_represents {R : Type} (k : Nat) (c : Code) (s : St) (K : Exit → St → Option R) : Option R := none
theorem hT_impl_represents {R : Type} (k : Nat) : TabOk tyE.P (T_impl_represents (R := R) k) := ⟨(good_impl_vanishes k), (good_slices_Clone k), trivial⟩
theorem hg_impl_represents {R : Type} (k : Nat) (K : List SV → List Ob → Option R) : ∀ v w, g_impl_represents k v w K = runF (look (T_impl_represents k)) tyE A_impl_represents (nats []) (L_impl_represents k) (Func.ntmps Try.f70) [.tmp 6] (bodyOf Try.f70) [.sl true 3 (.int .i64), .int .i64, .int .i64] [] [.bool] v w K := by
  rintro ⟨x0, x1, x2, _⟩ _
  kernel_rfl
theorem good_impl_represents {R : Type} (k : Nat) : Good tyE.P 70 false (F_impl_represents (R := R) k) :=
  fn_good tyE_ok (tab_ok (hT_impl_represents k)) A_impl_represents (nats []) (fn := Try.f70) (c := bodyOf Try.f70) (rs := [.tmp 6]) (by kernel_rfl) (by kernel_rfl) (by kernel_rfl) (by kernel_rfl) (L := L_impl_represents k) (loops_nil (R := R) (by kernel_rfl)) [.sl true 3 (.int .i64), .int .i64, .int .i64] [] [.bool] (g_impl_represents k) fun v w K r h => hg_impl_represents k K v w ▸ h


/-! "loop.example/localglobal/impl.ValueBad" -/
noncomputable def l_impl_ValueBad_5 {R : Type} (k : Nat) : Nat → List Int → Int → List Int → Int → Int → List Int → (List Int → Option R) → Option R
  | 0, _, _, _, _, _, _, _ => none
  | n + 1, v5, v6, v7, v8, v9, v10, K0 => cond (decide (v9 < v8)) (cond (decide (0 ≤ v9) && decide (v9 < ((v7).length : Int))) (f_impl_represents k v5 v6 (List.getD v7 (Int.toNat v9) 0) (fun r11 => cond (!(r11)) (cond (Nat.ble (v10.length + 1) LIM) (l_impl_ValueBad_5 k n v5 v6 v7 v8 (IntKind.wrap .i64 (v9 + 1)) (v10 ++ [(List.getD v7 (Int.toNat v9) 0)]) K0) none) (l_impl_ValueBad_5 k n v5 v6 v7 v8 (IntKind.wrap .i64 (v9 + 1)) v10 K0))) none) (K0 v10)

noncomputable def f_impl_ValueBad {R : Type} (k : Nat) (a0 : List Int) (a1 : Int) (K : List Int → Option R) : Option R :=
  f_impl_FormValid k a0 (fun r1 => cond (!(r1)) (K []) (f_impl_valueOk k a1 (fun r2 => cond (!(r2)) (K []) (f_slices_Clone k a0 (fun r3 => cond (Nat.ble (r3.length + 1) LIM) (f_impl_placesOf k (r3 ++ [a1]) (fun r4 => l_impl_ValueBad_5 k k a0 a1 r4 (r4.length : Int) 0 [] (fun y12 => K y12))) none)))))


noncomputable def g_impl_ValueBad {R : Type} (k : Nat) (v : HT [.sl true 3 (.int .i64), .int .i64]) (w : HO []) (K : List SV → List Ob → Option R) : Option R := f_impl_ValueBad k v.1 v.2.1 (fun r0 => K [.sl false 3 (.int .i64) r0] [])
noncomputable def F_impl_ValueBad {R : Type} (k : Nat) : CF R := wrapF [.sl true 3 (.int .i64), .int .i64] [] (g_impl_ValueBad k)
noncomputable def A_impl_ValueBad : Ann := { pre := nats [], cut := look [(5, [0, 1, 5, 22, 23, 24])], frz := fun i => match look [] i with | some l => l | none => [], fz := nats [], out := outOf [(0, [5])] (some [4]) }
noncomputable def T_impl_ValueBad {R : Type} (k : Nat) : List (Nat × (Bool × CF R)) := [(31, (false, (F_impl_FormValid k))), (57, (false, (F_impl_placesOf k))), (70, (false, (F_impl_represents k))), (44, (false, (F_impl_valueOk k))), (58, (false, (F_slices_Clone k)))]
noncomputable abbrev h_impl_ValueBad_5 : Shape := ⟨[(0, .sl true 3 (.int .i64)), (1, .int .i64), (5, .slo 1016), (22, .sl false 3 (.int .i64)), (23, .int .i64), (24, .int .i64)], [(1016, .arr 3 (.int .i64))]⟩
noncomputable def lf_impl_ValueBad_5 {R : Type} (k : Nat) (n : Nat) (v : h_impl_ValueBad_5.T) (K : Exit → St → Option R) : Option R := l_impl_ValueBad_5 k n v.1.1 v.1.2.1 v.1.2.2.2.1 v.1.2.2.2.2.1 v.1.2.2.2.2.2.1 v.2.1 (fun y0 => K (.exit 0) ⟨[(5, .s (.slo 1016))], [(1016, .arr 3 (.int .i64) y0)]⟩)
noncomputable def L_impl_ValueBad {R : Type} (k : Nat) (c : Code) (s : St) (K : Exit → St → Option R) : Option R := cond (Nat.beq (firstReg c) 5) ((h_impl_ValueBad_5.dec (cutAt A_impl_ValueBad c s)).bind fun v => lf_impl_ValueBad_5 k k v K) (none)
theorem hT_impl_ValueBad {R : Type} (k : Nat) : TabOk tyE.P (T_impl_ValueBad (R := R) k) := ⟨(good_impl_FormValid k), (good_impl_placesOf k), (good_impl_represents k), (good_impl_valueOk k), (good_slices_Clone k), trivial⟩
noncomputable def b_impl_ValueBad_5 : Code := nthLoop (bodyOf Try.f45) 0
theorem hs_impl_ValueBad_5 {R : Type} (k : Nat) (n : Nat) (K : Exit → St → Option R) : ∀ v, lf_impl_ValueBad_5 k (n + 1) v K = evk (look (T_impl_ValueBad k)) tyE A_impl_ValueBad (Func.ntmps Try.f45) (drawn (look (T_impl_ValueBad k)) tyE A_impl_ValueBad (nats []) (Func.ntmps Try.f45)) (L_impl_ValueBad k) b_impl_ValueBad_5 (h_impl_ValueBad_5.enc v) (loopK A_impl_ValueBad b_impl_ValueBad_5 h_impl_ValueBad_5.dec (lf_impl_ValueBad_5 k) n K) := by
  rintro ⟨⟨x0, x1, _, x2, x3, x4, _⟩, ⟨x5, _⟩⟩
  kernel_rfl
theorem lo_impl_ValueBad_5 {R : Type} (k : Nat) : LoopOk tyE.P (Func.ntmps Try.f45) (L_impl_ValueBad (R := R) k) b_impl_ValueBad_5 :=
  fn_loop tyE_ok (tab_ok (hT_impl_ValueBad k)) A_impl_ValueBad (nats []) (loops_nil (R := R) (by kernel_rfl)) h_impl_ValueBad_5 (lf_impl_ValueBad_5 k) k (fun s K => by kernel_rfl) (fun v K => by kernel_rfl) fun n v K r h => hs_impl_ValueBad_5 k n K v ▸ h
theorem hg_impl_ValueBad {R : Type} (k : Nat) (K : List SV → List Ob → Option R) : ∀ v w, g_impl_ValueBad k v w K = runF (look (T_impl_ValueBad k)) tyE A_impl_ValueBad (nats []) (L_impl_ValueBad k) (Func.ntmps Try.f45) [.tmp 4] (bodyOf Try.f45) [.sl true 3 (.int .i64), .int .i64] [] [.sl false 3 (.int .i64)] v w K := by
  rintro ⟨x0, x1, _⟩ _
  kernel_rfl
theorem good_impl_ValueBad {R : Type} (k : Nat) : Good tyE.P 45 false (F_impl_ValueBad (R := R) k) :=
  fn_good tyE_ok (tab_ok (hT_impl_ValueBad k)) A_impl_ValueBad (nats []) (fn := Try.f45) (c := bodyOf Try.f45) (rs := [.tmp 4]) (by kernel_rfl) (by kernel_rfl) (by kernel_rfl) (by kernel_rfl) (L := L_impl_ValueBad k) (loops_one (R := R) (by kernel_rfl) (lo_impl_ValueBad_5 k)) [.sl true 3 (.int .i64), .int .i64] [] [.sl false 3 (.int .i64)] (g_impl_ValueBad k) fun v w K r h => hg_impl_ValueBad k K v w ▸ h


/-! "loop.example/localglobal/impl.ValueEverywhere" -/
noncomputable def f_impl_ValueEverywhere {R : Type} (k : Nat) (a0 : List Int) (a1 : Int) (K : Bool → Option R) : Option R :=
  f_impl_FormValid k a0 (fun r1 => cond (r1) (f_impl_valueOk k a1 (fun r2 => cond (r2) (f_impl_ValueBad k a0 a1 (fun r3 => K (decide ((r3.length : Int) = 0)))) (K false))) (K false))


noncomputable def g_impl_ValueEverywhere {R : Type} (k : Nat) (v : HT [.sl true 3 (.int .i64), .int .i64]) (w : HO []) (K : List SV → List Ob → Option R) : Option R := f_impl_ValueEverywhere k v.1 v.2.1 (fun r0 => K [.bool r0] [])
noncomputable def F_impl_ValueEverywhere {R : Type} (k : Nat) : CF R := wrapF [.sl true 3 (.int .i64), .int .i64] [] (g_impl_ValueEverywhere k)
noncomputable def A_impl_ValueEverywhere : Ann := { pre := nats [], cut := look [], frz := fun i => match look [] i with | some l => l | none => [], fz := nats [], out := outOf [] (some [4]) }
noncomputable def T_impl_ValueEverywhere {R : Type} (k : Nat) : List (Nat × (Bool × CF R)) := [(31, (false, (F_impl_FormValid k))), (45, (false, (F_impl_ValueBad k))), (44, (false, (F_impl_valueOk k)))]
noncomputable def L_impl_ValueEverywhere {R : Type} (k : Nat) (c : Code) (s : St) (K : Exit → St → Option R) : Option R := none
theorem hT_impl_ValueEverywhere {R : Type} (k : Nat) : TabOk tyE.P (T_impl_ValueEverywhere (R := R) k) := ⟨(good_impl_FormValid k), (good_impl_ValueBad k), (good_impl_valueOk k), trivial⟩
theorem hg_impl_ValueEverywhere {R : Type} (k : Nat) (K : List SV → List Ob → Option R) : ∀ v w, g_impl_ValueEverywhere k v w K = runF (look (T_impl_ValueEverywhere k)) tyE A_impl_ValueEverywhere (nats []) (L_impl_ValueEverywhere k) (Func.ntmps Try.f16) [.tmp 4] (bodyOf Try.f16) [.sl true 3 (.int .i64), .int .i64] [] [.bool] v w K := by
  rintro ⟨x0, x1, _⟩ _
  kernel_rfl
theorem good_impl_ValueEverywhere {R : Type} (k : Nat) : Good tyE.P 16 false (F_impl_ValueEverywhere (R := R) k) :=
  fn_good tyE_ok (tab_ok (hT_impl_ValueEverywhere k)) A_impl_ValueEverywhere (nats []) (fn := Try.f16) (c := bodyOf Try.f16) (rs := [.tmp 4]) (by kernel_rfl) (by kernel_rfl) (by kernel_rfl) (by kernel_rfl) (L := L_impl_ValueEverywhere k) (loops_nil (R := R) (by kernel_rfl)) [.sl true 3 (.int .i64), .int .i64] [] [.bool] (g_impl_ValueEverywhere k) fun v w K r h => hg_impl_ValueEverywhere k K v w ▸ h


end Go.Proofs.Ytmmadcccjicdcaa.E
