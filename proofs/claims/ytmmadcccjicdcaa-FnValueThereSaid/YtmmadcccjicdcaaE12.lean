/- From a function's plain meaning to the walk that a law's row asks for: one slice of bytes comes in, one bool goes out. -/
import Derived.Test.YtmmadcccjicdcaaE11
import Derived.Below
import Derived.WalkKit
namespace Go.Proofs.Ytmmadcccjicdcaa.E
set_option linter.unusedVariables false
open Go.RowKit

/-- A row that came in: nil, or cells that can be read. -/
def IsRow (k : IntKind) (w : World) (a : Option Addr) (len cap : Nat) (zs : List Int) : Prop :=
  (a = none ∧ len = 0 ∧ cap = 0 ∧ zs = []) ∨
  ∃ x, a = some x ∧ len ≤ cap ∧ cap ≤ maxLen ∧ zs.length = cap ∧ (∀ i, i < zs.length → w.cell? (x.add i) = some (.int k (zs.getD i 0))) ∧ ∀ n ∈ zs, (Lit.int k n).wf = true

def begin_ (w : World) : G := ⟨fun b => if b < w.heap.size then .shared false else .none, fun _ => undef⟩

theorem row_rep {k : IntKind} {w : World} {a : Option Addr} {len cap : Nat} {zs : List Int} (h : IsRow k w a len cap zs) (l : Bool) (e : TypeId) : (zs.take len).length = len ∧ rep (begin_ w) w (.sl l e (.int k) (zs.take len)) (.slice a len cap) := by
  rcases h with ⟨rfl, rfl, rfl, rfl⟩ | ⟨x, rfl, hl, hm, hz, hc, _⟩
  · exact ⟨rfl, none, 0, rfl, Nat.le_refl _, fun h => absurd rfl h⟩
  · have hlen : (zs.take len).length = len := by rw [List.length_take]; omega
    refine ⟨hlen, some x, cap, by rw [hlen], by rw [hlen]; exact hl, fun hne => ?_⟩
    have hpos : 0 < len := by
      rcases Nat.eq_zero_or_pos len with h0 | h0
      · subst h0; simp at hne
      · exact h0
    have h0 := hc 0 (by omega)
    have hx : x.add 0 = x := rfl
    rw [hx] at h0
    obtain ⟨b, o, sp⟩ := x
    have hlt : b < w.heap.size := by
      rcases Nat.lt_or_ge b w.heap.size with h | h
      · exact h
      · unfold World.cell? at h0
        simp only [Array.getElem?_eq_none h] at h0
        cases h0
    have hsp : sp = none := by
      unfold World.cell? at h0
      cases sp with
      | none => rfl
      | some s =>
        split at h0
        · simp at h0
        · cases h0
    subst hsp
    refine ⟨b, o, rfl, ⟨false, by simp, by simp [begin_, hlt]⟩, fun i u hi => ?_⟩
    rw [List.getElem?_take] at hi
    split at hi
    · have hil : i < zs.length := by omega
      have := hc i hil
      have hadd : (⟨b, o, none⟩ : Addr).add i = ⟨b, o + i, none⟩ := by
        unfold Addr.add
        split
        · rename_i h; subst h; rfl
        · rfl
      rw [hadd] at this
      rw [this, List.getD_eq_getElem?_getD, hi]
      rfl
    · cases hi

/-- THE WALK of a law. -/
theorem law_walk {P : Program} {f : Nat} {fn : Func} {c : Code} (hf : P.funcs[f]? = some fn) (hname : (fn.name == "runtime.NumGoroutine") = false) (hb : fn.body = some c) {F : CF (List SV × List Ob)} (hG : Good P f false F)
    {k : IntKind} {e : TypeId} {w : World} {a : Option Addr} {len cap : Nat} {zs : List Int} (h : IsRow k w a len cap zs) (hrun : F [.sl true e (.int k) (zs.take len)] [] (fun r o => some (r, o)) = some ([.bool true], [])) :
    Calls P f #[.slice a len cap] w fun e w' => e = .returned (.bool true) ∧ Below w.heap.size w w' := by
  obtain ⟨res, objs, hK, hcall⟩ := hG _ _ _ _ hrun
  simp only [Option.some.injEq, Prod.mk.injEq] at hK
  obtain ⟨rfl, rfl⟩ := hK
  have h1 := hcall (begin_ w) [.slice a len cap] w (fun b hb => by simp [begin_]; omega) (fun j ob hj => by simp at hj) rfl (fun i sv hi => by
    cases i with
    | zero => simp only [List.getElem?_cons_zero, Option.some.injEq] at hi; subst hi; exact (row_rep h true e).2
    | succ i => simp at hi) (by simp)
  have hrun : (callFunc f #[.slice a len cap]).run P w = .ok (.enter f #[.slice a len cap]) w := by
    have h3 : fn.name ≠ "runtime.NumGoroutine" := by simpa using hname
    simp [callFunc, hf, h3, hb]
  have hpost : ∀ (v : Value) (w' : World), (∃ g', Ok w (begin_ w).κ (fun j => cellsOb (([] : List Ob)[j]?)) (begin_ w).hd g' (fun j => ([] : List Ob)[j]?) w' ∧ (false = true → ∀ j, j < ([] : List Ob).length → g'.hd j = (begin_ w).hd j) ∧ resRep g' w' [.bool true] v) →
      v = .bool true ∧ Below w.heap.size w w' := by
    rintro v w' ⟨g', hok, _, hr⟩
    refine ⟨hr, ⟨hok.os, hok.tape, hok.output, hok.size, fun b hb => (hok.old b hb fun j => by simp [begin_, hb]).1⟩⟩
  rcases h1 with ⟨_, h2⟩ | ⟨v, w', h2, _⟩
  · refine h2.mono fun e w' ⟨v, he, hR⟩ => ?_
    obtain ⟨rfl, hB⟩ := hpost v w' hR
    exact ⟨he, hB⟩
  · rw [hrun] at h2
    cases h2

end Go.Proofs.Ytmmadcccjicdcaa.E
