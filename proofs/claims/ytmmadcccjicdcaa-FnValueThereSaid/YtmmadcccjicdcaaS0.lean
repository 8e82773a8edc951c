/- The library's sort of whole numbers, as an entry of the table of known calls. -/
import Derived.Test.YtmmadcccjicdcaaV
import Derived.Shelf.Sort.Plain
import Derived.Sort.OwnSortedInts
namespace Go.Proofs.Ytmmadcccjicdcaa.E
set_option linter.unusedVariables false
set_option maxRecDepth 100000

def sortRen : Go.Shelf.Ren := ⟨fun | 125 => 97 | 128 => 119 | 129 => 120 | 189 => 81 | 215 => 129 | 216 => 116 | 257 => 96 | 294 => 110 | 295 => 111 | 296 => 112 | 297 => 113 | 298 => 114 | 299 => 115 | 300 => 117 | 301 => 118 | 328 => 124 | 329 => 125 | 330 => 126 | 331 => 127 | 332 => 128 | 343 => 130 | n => n, fun | 0 => 0 | 3 => 3 | 4 => 4 | 5 => 5 | 9 => 9 | 28 => 26 | 46 => 84 | 51 => 95 | 53 => 97 | 131 => 33 | 182 => 89 | 183 => 90 | 218 => 99 | 222 => 103 | 228 => 105 | 229 => 58 | n => n, fun n => n⟩
theorem sortLaid : Lays.n189 Try.prog sortRen where
  mixed := by kernel_rfl
  f125 := Try.func97.trans (congrArg some (by kernel_rfl))
  f128 := Try.func119.trans (congrArg some (by kernel_rfl))
  f129 := Try.func120.trans (congrArg some (by kernel_rfl))
  f189 := Try.func81.trans (congrArg some (by kernel_rfl))
  f215 := Try.func129.trans (congrArg some (by kernel_rfl))
  f216 := Try.func116.trans (congrArg some (by kernel_rfl))
  f257 := Try.func96.trans (congrArg some (by kernel_rfl))
  f294 := Try.func110.trans (congrArg some (by kernel_rfl))
  f295 := Try.func111.trans (congrArg some (by kernel_rfl))
  f296 := Try.func112.trans (congrArg some (by kernel_rfl))
  f297 := Try.func113.trans (congrArg some (by kernel_rfl))
  f298 := Try.func114.trans (congrArg some (by kernel_rfl))
  f299 := Try.func115.trans (congrArg some (by kernel_rfl))
  f300 := Try.func117.trans (congrArg some (by kernel_rfl))
  f301 := Try.func118.trans (congrArg some (by kernel_rfl))
  f328 := Try.func124.trans (congrArg some (by kernel_rfl))
  f329 := Try.func125.trans (congrArg some (by kernel_rfl))
  f330 := Try.func126.trans (congrArg some (by kernel_rfl))
  f331 := Try.func127.trans (congrArg some (by kernel_rfl))
  f332 := Try.func128.trans (congrArg some (by kernel_rfl))
  f343 := Try.func130.trans (congrArg some (by kernel_rfl))
  t0 := Try.underlying0
  a0 := Try.isAgg0
  z0 := Try.sizeOf0
  v0 := Try.zeroValue0
  t3 := Try.underlying3
  a3 := Try.isAgg3
  z3 := Try.sizeOf3
  v3 := Try.zeroValue3
  t4 := Try.underlying4
  a4 := Try.isAgg4
  z4 := Try.sizeOf4
  v4 := Try.zeroValue4
  t5 := Try.underlying5
  a5 := Try.isAgg5
  z5 := Try.sizeOf5
  v5 := Try.zeroValue5
  t9 := Try.underlying9
  a9 := Try.isAgg9
  z9 := Try.sizeOf9
  v9 := Try.zeroValue9
  t28 := Try.underlying26
  a28 := Try.isAgg26
  z28 := Try.sizeOf26
  v28 := Try.zeroValue26
  t46 := Try.underlying84
  a46 := Try.isAgg84
  z46 := Try.sizeOf84
  v46 := Try.zeroValue84
  t51 := Try.underlying95
  a51 := Try.isAgg95
  z51 := Try.sizeOf95
  v51 := Try.zeroValue95
  t53 := Try.underlying97
  a53 := Try.isAgg97
  z53 := Try.sizeOf97
  v53 := Try.zeroValue97
  t131 := Try.underlying33
  a131 := Try.isAgg33
  z131 := Try.sizeOf33
  v131 := Try.zeroValue33
  t182 := Try.underlying89
  a182 := Try.isAgg89
  z182 := Try.sizeOf89
  v182 := Try.zeroValue89
  t183 := Try.underlying90
  a183 := Try.isAgg90
  z183 := Try.sizeOf90
  v183 := Try.zeroValue90
  t218 := Try.underlying99
  a218 := Try.isAgg99
  z218 := Try.sizeOf99
  v218 := Try.zeroValue99
  t222 := Try.underlying103
  a222 := Try.isAgg103
  z222 := Try.sizeOf103
  v222 := Try.zeroValue103
  t228 := Try.underlying105
  a228 := Try.isAgg105
  z228 := Try.sizeOf105
  v228 := Try.zeroValue105
  t229 := Try.underlying58
  a229 := Try.isAgg58
  z229 := Try.sizeOf58
  v229 := Try.zeroValue58

def sortL (xs : List Int) : List Int := xs.mergeSort fun x y => decide (x ≤ y)

def f_slices_Sort {R : Type} (k : Nat) (xs : List Int) (K : List Int → Option R) : Option R := cond (isNe xs && Nat.ble xs.length LIM) (K (sortL xs)) none

def F_slices_Sort {R : Type} (k : Nat) : CF R := fun args objs K =>
  match args, objs with
  | [.slo 0], [.arr e (.int .i64) xs] => cond (Nat.beq e 3) (f_slices_Sort k xs fun r => K [] [.arr 3 (.int .i64) r]) none
  | _, _ => none

theorem good_slices_Sort {R : Type} (k : Nat) : Good tyE.P 81 true (F_slices_Sort (R := R) k) := by
  intro args objs K r hc
  unfold F_slices_Sort at hc
  split at hc
  · rename_i e xs
    cases he : Nat.beq e 3 with
    | false => rw [he] at hc; cases hc
    | true =>
      rw [he] at hc
      have he' := Nat.eq_of_beq_eq_true he
      subst he'
      simp only [cond_true, f_slices_Sort] at hc
      cases hl : (isNe xs && Nat.ble xs.length LIM) with
      | false => rw [hl] at hc; cases hc
      | true =>
        rw [hl] at hc
        rw [Bool.and_eq_true] at hl
        have hne : xs.length ≠ 0 := fun h0 => by
          have := List.eq_nil_of_length_eq_zero h0
          subst this; cases hl.1
        have hlen : xs.length ≤ LIM := Nat.le_of_ble_eq_true hl.2
        have hlim : LIM = 4294967296 := rfl
        refine ⟨_, _, hc, fun g vals w hfresh hobs hal hargs _ => ?_⟩
        obtain ⟨⟨h1, h2⟩, h3⟩ := hobs 0 _ rfl
        have h0 := hargs 0 _ rfl
        obtain ⟨v, rfl⟩ : ∃ v, vals = [v] := by
          match vals, hal with
          | [v], _ => exact ⟨v, rfl⟩
        have hv : v = g.hd 0 := h0.1
        rcases h2 with ⟨_, h2⟩ | ⟨b, cap, cur, hhd, _, hb, hn, hm, hs, ht⟩
        · exact absurd h2 hne
        rw [hhd] at hv
        subst hv
        have hblk : b < w.heap.size := (Array.getElem?_eq_some_iff.1 hb).1
        have hkb : g.κ b = .obj 0 := h3 b (by rw [hhd]; rfl)
        have hH := holds_of_blockI (g := b) (ss := xs) hb (by rw [Nat.mul_one] at ht; exact ht)
        have hcall := Any.slices_Sort_int sortLaid b 0 cap xs w hH hblk (by omega)
        refine .inl ⟨?_, hcall.mono fun e w' ⟨he, n, os, hw⟩ => ⟨_, he, ⟨g.κ, g.hd⟩, ?_, fun _ _ _ => rfl, ?_⟩⟩
        · have hf : tyE.P.funcs[81]? = some Try.f81 := by kernel_rfl
          have h5 : Try.f81.name ≠ "runtime.NumGoroutine" := by
            have : (Try.f81.name == "runtime.NumGoroutine") = false := by kernel_rfl
            simpa using this
          have h6 : Try.f81.body = some (bodyOf Try.f81) := by kernel_rfl
          simp [callFunc, hf, h5, h6]
        · have hg := grownBy_sortedI (w := w) (g := b) (n := n) (os := os) (xs.mergeSort fun x y => decide (x ≤ y)).toArray
          rw [← hw] at hg
          refine ⟨hg.os, hg.tape, hg.output, hg.size, fun b' hb' hno => ⟨hg.block b' hb' (fun e => ?_), rfl⟩, fun b' hb' => hfresh b' (by have := hg.size; omega), fun j ob hj => ?_, fun j hj => ?_⟩
          · cases e; exact hno 0 hkb
          · cases j with
            | succ j => simp at hj
            | zero =>
              simp only [List.getElem?_cons_zero, Option.some.injEq] at hj
              subst hj
              have hlen2 : (sortL xs).length = xs.length := List.length_mergeSort xs
              have hown := ownsRow_sortedI (w := w) (base := 0) (g := b) (cap := cap) (n := n) (os := os) (ss := xs) (ts := sortL xs) hlen2 (Nat.zero_le _) hb hn hm hs
              refine ⟨?_, fun b' hb' => h3 b' hb'⟩
              show w'.ownsRow 0 3 1 (g.hd 0) (sortL xs).length ((sortL xs).map (El.enc (.int .i64)))
              rw [hw, hhd, hlen2]
              exact hown
          · cases j with
            | zero => exact hj.elim
            | succ j => exact hj.elim
        · exact ⟨#[], rfl, rfl, fun i sv hi => by simp at hi⟩
  · cases hc

theorem sortL_perm (xs : List Int) : (sortL xs).Perm xs := List.mergeSort_perm xs _
theorem sortL_sorted (xs : List Int) : (sortL xs).Pairwise fun x y => x ≤ y := by
  have := List.pairwise_mergeSort (le := fun x y : Int => decide (x ≤ y)) (fun a b c h1 h2 => by simp at *; omega) (fun a b => by simp; omega) xs
  exact this.imp fun {a b} h => by simpa using h

end Go.Proofs.Ytmmadcccjicdcaa.E
