/- The types of the program that the abstract run is told of. -/
import Derived.Test.YtmmadcccjicdcaaE11
import Derived.Test.YtmmadcccjicdcaaProg
import Derived.KernelRfl
namespace Go.Proofs.Ytmmadcccjicdcaa.E
set_option linter.unusedVariables false
set_option maxRecDepth 100000

noncomputable def tyE : Env where
  P := Try.prog
  slice := look [(26, (3, El.int .i64)), (22, (5, El.int .u8))]
  one := nats [3, 4, 5, 9, 22, 26, 49, 68, 74]
  intk := look [(3, IntKind.i64), (5, IntKind.u8)]
  isStr := nats [9]
  isBool := nats [4]
  field := fieldOf [(66, [0, 1]), (76, [0, 1])]
  zero := look [(3, SV.int .i64 0), (26, SV.nil), (68, SV.undef)]
  agg := look [(66, [SV.nil, SV.int .i64 0]), (80, [SV.int .i64 0, SV.int .i64 0]), (76, [SV.nil, SV.int .i64 0])]
  arr := look [(80, 2)]
  tab := look [(81, (80, 2))]
  rows := look [(74, (26, 3))]

theorem info_ex {t : TypeId} (h : (tyE.P.info? t).isSome = true) (p : TypeInfo → Prop) (hp : p ((tyE.P.info? t).get h)) : ∃ i, tyE.P.info? t = some i ∧ p i := ⟨_, (Option.some_get h).symm, hp⟩
theorem under_ex {t : TypeId} (h : (tyE.P.underlying t).isSome = true) (p : TypeDesc → Prop) (hp : p ((tyE.P.underlying t).get h)) : ∃ i, tyE.P.underlying t = some i ∧ p i := ⟨_, (Option.some_get h).symm, hp⟩

theorem slice26 : tyE.P.underlying 26 = some (.slice 3) ∧ ∃ i, tyE.P.info? 3 = some i ∧ i.size = 1 ∧ i.zero = some (El.enc (El.int .i64) (El.zero (El.int .i64))) ∧ 0 < i.bytes ∧ i.bytes ≤ 24 ∧ ∀ k, (El.int .i64 : El) = .int k → tyE.P.underlying 3 = some (.int k) :=
  ⟨by kernel_rfl, info_ex (by kernel_rfl) _ ⟨by kernel_rfl, by kernel_rfl, Nat.le_of_ble_eq_true (by kernel_rfl), Nat.le_of_ble_eq_true (by kernel_rfl), fun k hk => by cases hk; kernel_rfl⟩⟩
theorem slice22 : tyE.P.underlying 22 = some (.slice 5) ∧ ∃ i, tyE.P.info? 5 = some i ∧ i.size = 1 ∧ i.zero = some (El.enc (El.int .u8) (El.zero (El.int .u8))) ∧ 0 < i.bytes ∧ i.bytes ≤ 24 ∧ ∀ k, (El.int .u8 : El) = .int k → tyE.P.underlying 5 = some (.int k) :=
  ⟨by kernel_rfl, info_ex (by kernel_rfl) _ ⟨by kernel_rfl, by kernel_rfl, Nat.le_of_ble_eq_true (by kernel_rfl), Nat.le_of_ble_eq_true (by kernel_rfl), fun k hk => by cases hk; kernel_rfl⟩⟩
theorem one3 : (∃ d, tyE.P.underlying 3 = some d ∧ notAgg d = true) ∧ ∃ i, tyE.P.info? 3 = some i ∧ i.size = 1 := ⟨under_ex (by kernel_rfl) _ (by kernel_rfl), info_ex (by kernel_rfl) _ (by kernel_rfl)⟩
theorem one4 : (∃ d, tyE.P.underlying 4 = some d ∧ notAgg d = true) ∧ ∃ i, tyE.P.info? 4 = some i ∧ i.size = 1 := ⟨under_ex (by kernel_rfl) _ (by kernel_rfl), info_ex (by kernel_rfl) _ (by kernel_rfl)⟩
theorem one5 : (∃ d, tyE.P.underlying 5 = some d ∧ notAgg d = true) ∧ ∃ i, tyE.P.info? 5 = some i ∧ i.size = 1 := ⟨under_ex (by kernel_rfl) _ (by kernel_rfl), info_ex (by kernel_rfl) _ (by kernel_rfl)⟩
theorem one9 : (∃ d, tyE.P.underlying 9 = some d ∧ notAgg d = true) ∧ ∃ i, tyE.P.info? 9 = some i ∧ i.size = 1 := ⟨under_ex (by kernel_rfl) _ (by kernel_rfl), info_ex (by kernel_rfl) _ (by kernel_rfl)⟩
theorem one22 : (∃ d, tyE.P.underlying 22 = some d ∧ notAgg d = true) ∧ ∃ i, tyE.P.info? 22 = some i ∧ i.size = 1 := ⟨under_ex (by kernel_rfl) _ (by kernel_rfl), info_ex (by kernel_rfl) _ (by kernel_rfl)⟩
theorem one26 : (∃ d, tyE.P.underlying 26 = some d ∧ notAgg d = true) ∧ ∃ i, tyE.P.info? 26 = some i ∧ i.size = 1 := ⟨under_ex (by kernel_rfl) _ (by kernel_rfl), info_ex (by kernel_rfl) _ (by kernel_rfl)⟩
theorem one49 : (∃ d, tyE.P.underlying 49 = some d ∧ notAgg d = true) ∧ ∃ i, tyE.P.info? 49 = some i ∧ i.size = 1 := ⟨under_ex (by kernel_rfl) _ (by kernel_rfl), info_ex (by kernel_rfl) _ (by kernel_rfl)⟩
theorem one68 : (∃ d, tyE.P.underlying 68 = some d ∧ notAgg d = true) ∧ ∃ i, tyE.P.info? 68 = some i ∧ i.size = 1 := ⟨under_ex (by kernel_rfl) _ (by kernel_rfl), info_ex (by kernel_rfl) _ (by kernel_rfl)⟩
theorem one74 : (∃ d, tyE.P.underlying 74 = some d ∧ notAgg d = true) ∧ ∃ i, tyE.P.info? 74 = some i ∧ i.size = 1 := ⟨under_ex (by kernel_rfl) _ (by kernel_rfl), info_ex (by kernel_rfl) _ (by kernel_rfl)⟩
theorem field66_0 : ∃ fs fd i, tyE.P.underlying 66 = some (.struct fs) ∧ fs[0]? = some fd ∧ fd.offset = 0 ∧ tyE.P.info? fd.type = some i ∧ i.size ≠ 0 := by
  obtain ⟨d, hd, fs, hfs, fd, hfd, ho, i, hi, hs⟩ := under_ex (t := 66) (by kernel_rfl) (fun d => ∃ fs, d = .struct fs ∧ ∃ fd, fs[0]? = some fd ∧ fd.offset = 0 ∧ ∃ i, tyE.P.info? fd.type = some i ∧ i.size ≠ 0) ⟨_, rfl, _, rfl, by kernel_rfl, _, rfl, Nat.succ_ne_zero _⟩
  exact ⟨fs, fd, i, hfs ▸ hd, hfd, ho, hi, hs⟩
theorem field66_1 : ∃ fs fd i, tyE.P.underlying 66 = some (.struct fs) ∧ fs[1]? = some fd ∧ fd.offset = 1 ∧ tyE.P.info? fd.type = some i ∧ i.size ≠ 0 := by
  obtain ⟨d, hd, fs, hfs, fd, hfd, ho, i, hi, hs⟩ := under_ex (t := 66) (by kernel_rfl) (fun d => ∃ fs, d = .struct fs ∧ ∃ fd, fs[1]? = some fd ∧ fd.offset = 1 ∧ ∃ i, tyE.P.info? fd.type = some i ∧ i.size ≠ 0) ⟨_, rfl, _, rfl, by kernel_rfl, _, rfl, Nat.succ_ne_zero _⟩
  exact ⟨fs, fd, i, hfs ▸ hd, hfd, ho, hi, hs⟩
theorem field76_0 : ∃ fs fd i, tyE.P.underlying 76 = some (.struct fs) ∧ fs[0]? = some fd ∧ fd.offset = 0 ∧ tyE.P.info? fd.type = some i ∧ i.size ≠ 0 := by
  obtain ⟨d, hd, fs, hfs, fd, hfd, ho, i, hi, hs⟩ := under_ex (t := 76) (by kernel_rfl) (fun d => ∃ fs, d = .struct fs ∧ ∃ fd, fs[0]? = some fd ∧ fd.offset = 0 ∧ ∃ i, tyE.P.info? fd.type = some i ∧ i.size ≠ 0) ⟨_, rfl, _, rfl, by kernel_rfl, _, rfl, Nat.succ_ne_zero _⟩
  exact ⟨fs, fd, i, hfs ▸ hd, hfd, ho, hi, hs⟩
theorem field76_1 : ∃ fs fd i, tyE.P.underlying 76 = some (.struct fs) ∧ fs[1]? = some fd ∧ fd.offset = 1 ∧ tyE.P.info? fd.type = some i ∧ i.size ≠ 0 := by
  obtain ⟨d, hd, fs, hfs, fd, hfd, ho, i, hi, hs⟩ := under_ex (t := 76) (by kernel_rfl) (fun d => ∃ fs, d = .struct fs ∧ ∃ fd, fs[1]? = some fd ∧ fd.offset = 1 ∧ ∃ i, tyE.P.info? fd.type = some i ∧ i.size ≠ 0) ⟨_, rfl, _, rfl, by kernel_rfl, _, rfl, Nat.succ_ne_zero _⟩
  exact ⟨fs, fd, i, hfs ▸ hd, hfd, ho, hi, hs⟩
theorem zero3 : ∃ i v, tyE.P.info? 3 = some i ∧ i.zero = some v ∧ v.oneCell' = true ∧ ∀ g w, rep g w (SV.int .i64 0) v := by
  obtain ⟨i, hi, v, hv, h1, h2⟩ := info_ex (t := 3) (by kernel_rfl) (fun i => ∃ v, i.zero = some v ∧ v.oneCell' = true ∧ ∀ g w, rep g w (SV.int .i64 0) v) ⟨_, rfl, by kernel_rfl, fun g w => rfl⟩
  exact ⟨i, v, hi, hv, h1, h2⟩
theorem zero26 : ∃ i v, tyE.P.info? 26 = some i ∧ i.zero = some v ∧ v.oneCell' = true ∧ ∀ g w, rep g w (SV.nil) v := by
  obtain ⟨i, hi, v, hv, h1, h2⟩ := info_ex (t := 26) (by kernel_rfl) (fun i => ∃ v, i.zero = some v ∧ v.oneCell' = true ∧ ∀ g w, rep g w (SV.nil) v) ⟨_, rfl, by kernel_rfl, fun g w => rfl⟩
  exact ⟨i, v, hi, hv, h1, h2⟩
theorem zero68 : ∃ i v, tyE.P.info? 68 = some i ∧ i.zero = some v ∧ v.oneCell' = true ∧ ∀ g w, rep g w (SV.undef) v := by
  obtain ⟨i, hi, v, hv, h1, h2⟩ := info_ex (t := 68) (by kernel_rfl) (fun i => ∃ v, i.zero = some v ∧ v.oneCell' = true ∧ ∀ g w, rep g w (SV.undef) v) ⟨_, rfl, by kernel_rfl, fun g w => trivial⟩
  exact ⟨i, v, hi, hv, h1, h2⟩
theorem intk0 : tyE.P.underlying 3 = some (.int .i64) := by kernel_rfl
theorem intk1 : tyE.P.underlying 5 = some (.int .u8) := by kernel_rfl
theorem str0 : tyE.P.underlying 9 = some .string := by kernel_rfl
theorem bool0 : tyE.P.underlying 4 = some .bool := by kernel_rfl
theorem agg66 : ∃ i cs, tyE.P.info? 66 = some i ∧ i.zero = some (.agg cs) ∧ cs.size = List.length [SV.nil, SV.int .i64 0] ∧ (∀ (k : Nat) sv, ([SV.nil, SV.int .i64 0] : List SV)[k]? = some sv → ∀ g w, rep g w sv (cs.getD k undef)) ∧ ((∃ fs, tyE.P.underlying 66 = some (.struct fs) ∧ fs.size = List.length [SV.nil, SV.int .i64 0] ∧ ∀ (k : Nat) (f : Field), fs[k]? = some f → f.offset = k ∧ ∃ j, tyE.P.info? f.type = some j ∧ j.size = 1) ∨ (∃ n e, tyE.P.underlying 66 = some (.array n e) ∧ ∃ j, tyE.P.info? e = some j ∧ j.size = 1)) := by
  obtain ⟨i, hi, cs, h1, h2, h3⟩ := info_ex (t := 66) (by kernel_rfl) (fun i => ∃ cs, i.zero = some (.agg cs) ∧ cs.size = List.length [SV.nil, SV.int .i64 0] ∧ ∀ (k : Nat) sv, ([SV.nil, SV.int .i64 0] : List SV)[k]? = some sv → ∀ g w, rep g w sv (cs.getD k undef)) ⟨_, rfl, by kernel_rfl, fun k sv h g w => by
      match k, h with
        | 0, h => cases h; exact rfl
        | 1, h => cases h; exact rfl
        | n + 2, h => simp at h⟩
  obtain ⟨d, hd, hu⟩ := under_ex (t := 66) (by kernel_rfl) (fun d => (∃ fs, d = .struct fs ∧ fs.size = List.length [SV.nil, SV.int .i64 0] ∧ ∀ (k : Nat) (f : Field), fs[k]? = some f → f.offset = k ∧ ∃ j, tyE.P.info? f.type = some j ∧ j.size = 1) ∨ (∃ n e, d = .array n e ∧ ∃ j, tyE.P.info? e = some j ∧ j.size = 1)) (.inl ⟨_, rfl, rfl, fun k f h => (match k, h with
      | 0, h => by cases h; exact ⟨rfl, info_ex (by kernel_rfl) _ (by kernel_rfl)⟩
      | 1, h => by cases h; exact ⟨rfl, info_ex (by kernel_rfl) _ (by kernel_rfl)⟩
      | n + 2, h => by simp at h)⟩)
  refine ⟨i, cs, hi, h1, h2, h3, ?_⟩
  rcases hu with ⟨fs, rfl, h⟩ | ⟨n, e, rfl, h⟩
  · exact .inl ⟨fs, hd, h⟩
  · exact .inr ⟨n, e, hd, h⟩
theorem agg80 : ∃ i cs, tyE.P.info? 80 = some i ∧ i.zero = some (.agg cs) ∧ cs.size = List.length [SV.int .i64 0, SV.int .i64 0] ∧ (∀ (k : Nat) sv, ([SV.int .i64 0, SV.int .i64 0] : List SV)[k]? = some sv → ∀ g w, rep g w sv (cs.getD k undef)) ∧ ((∃ fs, tyE.P.underlying 80 = some (.struct fs) ∧ fs.size = List.length [SV.int .i64 0, SV.int .i64 0] ∧ ∀ (k : Nat) (f : Field), fs[k]? = some f → f.offset = k ∧ ∃ j, tyE.P.info? f.type = some j ∧ j.size = 1) ∨ (∃ n e, tyE.P.underlying 80 = some (.array n e) ∧ ∃ j, tyE.P.info? e = some j ∧ j.size = 1)) := by
  obtain ⟨i, hi, cs, h1, h2, h3⟩ := info_ex (t := 80) (by kernel_rfl) (fun i => ∃ cs, i.zero = some (.agg cs) ∧ cs.size = List.length [SV.int .i64 0, SV.int .i64 0] ∧ ∀ (k : Nat) sv, ([SV.int .i64 0, SV.int .i64 0] : List SV)[k]? = some sv → ∀ g w, rep g w sv (cs.getD k undef)) ⟨_, rfl, by kernel_rfl, fun k sv h g w => by
      match k, h with
        | 0, h => cases h; exact rfl
        | 1, h => cases h; exact rfl
        | n + 2, h => simp at h⟩
  obtain ⟨d, hd, hu⟩ := under_ex (t := 80) (by kernel_rfl) (fun d => (∃ fs, d = .struct fs ∧ fs.size = List.length [SV.int .i64 0, SV.int .i64 0] ∧ ∀ (k : Nat) (f : Field), fs[k]? = some f → f.offset = k ∧ ∃ j, tyE.P.info? f.type = some j ∧ j.size = 1) ∨ (∃ n e, d = .array n e ∧ ∃ j, tyE.P.info? e = some j ∧ j.size = 1)) (.inr ⟨_, _, rfl, info_ex (by kernel_rfl) _ (by kernel_rfl)⟩)
  refine ⟨i, cs, hi, h1, h2, h3, ?_⟩
  rcases hu with ⟨fs, rfl, h⟩ | ⟨n, e, rfl, h⟩
  · exact .inl ⟨fs, hd, h⟩
  · exact .inr ⟨n, e, hd, h⟩
theorem agg76 : ∃ i cs, tyE.P.info? 76 = some i ∧ i.zero = some (.agg cs) ∧ cs.size = List.length [SV.nil, SV.int .i64 0] ∧ (∀ (k : Nat) sv, ([SV.nil, SV.int .i64 0] : List SV)[k]? = some sv → ∀ g w, rep g w sv (cs.getD k undef)) ∧ ((∃ fs, tyE.P.underlying 76 = some (.struct fs) ∧ fs.size = List.length [SV.nil, SV.int .i64 0] ∧ ∀ (k : Nat) (f : Field), fs[k]? = some f → f.offset = k ∧ ∃ j, tyE.P.info? f.type = some j ∧ j.size = 1) ∨ (∃ n e, tyE.P.underlying 76 = some (.array n e) ∧ ∃ j, tyE.P.info? e = some j ∧ j.size = 1)) := by
  obtain ⟨i, hi, cs, h1, h2, h3⟩ := info_ex (t := 76) (by kernel_rfl) (fun i => ∃ cs, i.zero = some (.agg cs) ∧ cs.size = List.length [SV.nil, SV.int .i64 0] ∧ ∀ (k : Nat) sv, ([SV.nil, SV.int .i64 0] : List SV)[k]? = some sv → ∀ g w, rep g w sv (cs.getD k undef)) ⟨_, rfl, by kernel_rfl, fun k sv h g w => by
      match k, h with
        | 0, h => cases h; exact rfl
        | 1, h => cases h; exact rfl
        | n + 2, h => simp at h⟩
  obtain ⟨d, hd, hu⟩ := under_ex (t := 76) (by kernel_rfl) (fun d => (∃ fs, d = .struct fs ∧ fs.size = List.length [SV.nil, SV.int .i64 0] ∧ ∀ (k : Nat) (f : Field), fs[k]? = some f → f.offset = k ∧ ∃ j, tyE.P.info? f.type = some j ∧ j.size = 1) ∨ (∃ n e, d = .array n e ∧ ∃ j, tyE.P.info? e = some j ∧ j.size = 1)) (.inl ⟨_, rfl, rfl, fun k f h => (match k, h with
      | 0, h => by cases h; exact ⟨rfl, info_ex (by kernel_rfl) _ (by kernel_rfl)⟩
      | 1, h => by cases h; exact ⟨rfl, info_ex (by kernel_rfl) _ (by kernel_rfl)⟩
      | n + 2, h => by simp at h)⟩)
  refine ⟨i, cs, hi, h1, h2, h3, ?_⟩
  rcases hu with ⟨fs, rfl, h⟩ | ⟨n, e, rfl, h⟩
  · exact .inl ⟨fs, hd, h⟩
  · exact .inr ⟨n, e, hd, h⟩
theorem arr80 : ∃ e j, tyE.P.underlying 80 = some (.array 2 e) ∧ tyE.P.info? e = some j ∧ j.size = 1 := by
  obtain ⟨d, hd, e, he, j, hj, hs⟩ := under_ex (t := 80) (by kernel_rfl) (fun d => ∃ e, d = .array 2 e ∧ ∃ j, tyE.P.info? e = some j ∧ j.size = 1) ⟨_, rfl, info_ex (by kernel_rfl) _ (by kernel_rfl)⟩
  exact ⟨e, j, he ▸ hd, hj, hs⟩
theorem tab81 : tyE.P.underlying 81 = some (.slice 80) ∧ 0 < 2 ∧ ∃ i cs, tyE.P.info? 80 = some i ∧ i.size = 2 ∧ i.zero = some (.agg cs) ∧ cs.size = 2 := by
  refine ⟨by kernel_rfl, by decide, ?_⟩
  obtain ⟨i, hi, cs, h1, h2, h3⟩ := info_ex (t := 80) (by kernel_rfl) (fun i => ∃ cs, i.size = 2 ∧ i.zero = some (.agg cs) ∧ cs.size = 2) ⟨_, by kernel_rfl, rfl, by kernel_rfl⟩
  exact ⟨i, cs, hi, h1, h2, h3⟩
theorem rows74 : tyE.P.underlying 74 = some (.slice 26) ∧ ∃ i v, tyE.P.info? 26 = some i ∧ i.size = 1 ∧ i.zero = some v ∧ v.oneCell' = true ∧ 0 < i.bytes ∧ i.bytes ≤ 24 := by
  refine ⟨by kernel_rfl, ?_⟩
  obtain ⟨i, hi, v, h1, h2, h3, h4, h5⟩ := info_ex (t := 26) (by kernel_rfl) (fun i => ∃ v, i.size = 1 ∧ i.zero = some v ∧ v.oneCell' = true ∧ 0 < i.bytes ∧ i.bytes ≤ 24) ⟨_, by kernel_rfl, rfl, by kernel_rfl, Nat.le_of_ble_eq_true (by kernel_rfl), Nat.le_of_ble_eq_true (by kernel_rfl)⟩
  exact ⟨i, v, hi, h1, h2, h3, h4, h5⟩
theorem aggSize66 : ∃ i, tyE.P.info? 66 = some i ∧ i.size = 2 := info_ex (by kernel_rfl) _ (by kernel_rfl)
theorem aggSize80 : ∃ i, tyE.P.info? 80 = some i ∧ i.size = 2 := info_ex (by kernel_rfl) _ (by kernel_rfl)
theorem aggSize76 : ∃ i, tyE.P.info? 76 = some i ∧ i.size = 2 := info_ex (by kernel_rfl) _ (by kernel_rfl)

theorem tyE_ok : EnvOk tyE where
  slice := by
    intro t e E h
    have h := look_mem (show look [(26, (3, El.int .i64)), (22, (5, El.int .u8))] t = some (e, E) from h)
    simp only [List.mem_cons, Prod.mk.injEq, List.not_mem_nil, or_false] at h
    rcases h with ⟨rfl, rfl, rfl⟩ | ⟨rfl, rfl, rfl⟩
    · exact slice26
    · exact slice22
  one := by
    intro t h
    have h := nats_mem (show nats [3, 4, 5, 9, 22, 26, 49, 68, 74] t = true from h)
    simp only [List.mem_cons, List.not_mem_nil, or_false] at h
    rcases h with rfl | rfl | rfl | rfl | rfl | rfl | rfl | rfl | rfl
    · exact one3
    · exact one4
    · exact one5
    · exact one9
    · exact one22
    · exact one26
    · exact one49
    · exact one68
    · exact one74
  intk := by
    intro t k h
    have h := look_mem (show look [(3, IntKind.i64), (5, IntKind.u8)] t = some k from h)
    simp only [List.mem_cons, Prod.mk.injEq, List.not_mem_nil, or_false] at h
    rcases h with ⟨rfl, rfl⟩ | ⟨rfl, rfl⟩
    · exact intk0
    · exact intk1
  isStr := by
    intro t h
    have h := nats_mem (show nats [9] t = true from h)
    simp only [List.mem_cons, List.not_mem_nil, or_false] at h
    subst h; exact str0
  isBool := by
    intro t h
    have h := nats_mem (show nats [4] t = true from h)
    simp only [List.mem_cons, List.not_mem_nil, or_false] at h
    subst h; exact bool0
  field := by
    intro t f off h
    obtain ⟨fs, h1, h2⟩ := fieldOf_mem (show fieldOf [(66, [0, 1]), (76, [0, 1])] t f = some off from h)
    simp only [List.mem_cons, Prod.mk.injEq, List.not_mem_nil, or_false] at h1
    rcases h1 with ⟨rfl, rfl⟩ | ⟨rfl, rfl⟩
    · match f, h2 with
      | 0, h2 => cases h2; exact field66_0
      | 1, h2 => cases h2; exact field66_1
      | n + 2, h2 => simp at h2
    · match f, h2 with
      | 0, h2 => cases h2; exact field76_0
      | 1, h2 => cases h2; exact field76_1
      | n + 2, h2 => simp at h2
  agg := by
    intro t sv h
    have h := look_mem (show look [(66, [SV.nil, SV.int .i64 0]), (80, [SV.int .i64 0, SV.int .i64 0]), (76, [SV.nil, SV.int .i64 0])] t = some sv from h)
    simp only [List.mem_cons, Prod.mk.injEq, List.not_mem_nil, or_false] at h
    rcases h with ⟨rfl, rfl⟩ | ⟨rfl, rfl⟩ | ⟨rfl, rfl⟩
    · exact agg66
    · exact agg80
    · exact agg76
  arr := by
    intro t n h
    have h := look_mem (show look [(80, 2)] t = some n from h)
    simp only [List.mem_cons, Prod.mk.injEq, List.not_mem_nil, or_false] at h
    rcases h with ⟨rfl, rfl⟩
    · exact arr80
  tab := by
    intro t e k h
    have h := look_mem (show look [(81, (80, 2))] t = some (e, k) from h)
    simp only [List.mem_cons, Prod.mk.injEq, List.not_mem_nil, or_false] at h
    rcases h with ⟨rfl, rfl, rfl⟩
    · exact tab81
  rows := by
    intro t e e' h
    have h := look_mem (show look [(74, (26, 3))] t = some (e, e') from h)
    simp only [List.mem_cons, Prod.mk.injEq, List.not_mem_nil, or_false] at h
    rcases h with ⟨rfl, rfl, rfl⟩
    · exact rows74
  aggSize := by
    intro t sv h
    have h := look_mem (show look [(66, [SV.nil, SV.int .i64 0]), (80, [SV.int .i64 0, SV.int .i64 0]), (76, [SV.nil, SV.int .i64 0])] t = some sv from h)
    simp only [List.mem_cons, Prod.mk.injEq, List.not_mem_nil, or_false] at h
    rcases h with ⟨rfl, rfl⟩ | ⟨rfl, rfl⟩ | ⟨rfl, rfl⟩
    · exact aggSize66
    · exact aggSize80
    · exact aggSize76
  zero := by
    intro t sv h
    have h := look_mem (show look [(3, SV.int .i64 0), (26, SV.nil), (68, SV.undef)] t = some sv from h)
    simp only [List.mem_cons, Prod.mk.injEq, List.not_mem_nil, or_false] at h
    rcases h with ⟨rfl, rfl⟩ | ⟨rfl, rfl⟩ | ⟨rfl, rfl⟩
    · exact zero3
    · exact zero26
    · exact zero68

end Go.Proofs.Ytmmadcccjicdcaa.E

