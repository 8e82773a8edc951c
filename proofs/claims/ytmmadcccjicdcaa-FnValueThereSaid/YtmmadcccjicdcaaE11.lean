/- A function's plain meaning: what a claim proves of it. Tables and types. -/
import Derived.Test.YtmmadcccjicdcaaE10
namespace Go.Proofs.Ytmmadcccjicdcaa.E
set_option linter.unusedVariables false
set_option linter.unusedSimpArgs false

theorem unpO_length : ∀ (l : List OTy) (w : HO l), (unpO l w).length = l.length
  | [], _ => rfl
  | t :: r, w => by simp [unpO, unpO_length r]

def TabOk {R : Type} (P : Program) : List (Nat × (Bool × CF R)) → Prop
  | [] => True
  | (f, e) :: r => Good P f e.1 e.2 ∧ TabOk P r

theorem tab_ok {R : Type} {P : Program} : ∀ {l : List (Nat × (Bool × CF R))}, TabOk P l → ∀ f mode F, look l f = some (mode, F) → Good P f mode F
  | [], _, f, mode, F, h => by cases h
  | (a, e) :: r, ⟨h1, h2⟩, f, mode, F, h => by
    unfold look at h
    cases hb : Nat.beq a f with
    | true =>
      rw [hb] at h
      have := Nat.eq_of_beq_eq_true hb
      subst this
      cases h
      exact h1
    | false => rw [hb] at h; exact tab_ok h2 f mode F h

def drawn {R : Type} (T : Tab R) (V : Env) (A : Ann) (last : Nat → Bool) (nt : Nat) (ops : Array Oper) (s : St) (K : St → Option R) : Option R := evDrawX T V A last nt ops s K

/-- The run of a function on plain values. -/
def runF {R : Type} (T : Tab R) (V : Env) (A : Ann) (last : Nat → Bool) (L : Code → St → (Exit → St → Option R) → Option R) (nt : Nat) (rs : List ResultVar) (c : Code) (tys : List Ty) (otys : List OTy) (rt : List Ty)
    (v : HT tys) (w : HO otys) (K : List SV → List Ob → Option R) : Option R :=
  evF T V A (drawn T V A last) L nt rs c (unpL tys v) (unpO otys w) fun res objs => K (coeR rt (res.map (finV otys.length objs))) (finO otys.length objs)

theorem fn_good {V : Env} (hV : EnvOk V) {R : Type} {T : Tab R} (hT : ∀ f mode F, T f = some (mode, F) → Good V.P f mode F) (A : Ann) (last : Nat → Bool) {f : Nat} {fn : Func} {c : Code} {rs : List ResultVar} (hf : V.P.funcs[f]? = some fn)
    (hname : (fn.name == "runtime.NumGoroutine") = false) (hb : fn.body = some c) (hrs : fn.results = rs.toArray) {L : Code → St → (Exit → St → Option R) → Option R} (hL : ∀ c' ∈ loops c, LoopOk V.P fn.ntmps L c') (tys : List Ty) (otys : List OTy) (rt : List Ty)
    (g : HT tys → HO otys → (List SV → List Ob → Option R) → Option R) (hg : ∀ v w K r, g v w K = some r → runF T V A last L fn.ntmps rs c tys otys rt v w K = some r) : Good V.P f false (wrapF tys otys g) := by
  refine wrap_good (Good.fin (evF_good hV hT A (D := drawn T V A last) (fun nt ops s K r h => evDrawX_sound hV hT nt A last ops s K r h) hf hname hb hrs hL) rt) tys otys g fun v w K r h => ?_
  have := hg v w K r h
  unfold runF at this
  rw [← unpO_length otys w] at this
  exact this

/-- The same where what the call made is handed on as objects. -/
def runR {R : Type} (T : Tab R) (V : Env) (A : Ann) (last : Nat → Bool) (L : Code → St → (Exit → St → Option R) → Option R) (nt : Nat) (rs : List ResultVar) (c : Code) (tys : List Ty) (otys : List OTy) (rt : List Ty)
    (v : HT tys) (w : HO otys) (K : List SV → List Ob → Option R) : Option R :=
  evF T V A (drawn T V A last) L nt rs c (unpL tys v) (unpO otys w) K

theorem fn_good_raw {V : Env} (hV : EnvOk V) {R : Type} {T : Tab R} (hT : ∀ f mode F, T f = some (mode, F) → Good V.P f mode F) (A : Ann) (last : Nat → Bool) {f : Nat} {fn : Func} {c : Code} {rs : List ResultVar} (hf : V.P.funcs[f]? = some fn)
    (hname : (fn.name == "runtime.NumGoroutine") = false) (hb : fn.body = some c) (hrs : fn.results = rs.toArray) {L : Code → St → (Exit → St → Option R) → Option R} (hL : ∀ c' ∈ loops c, LoopOk V.P fn.ntmps L c') (tys : List Ty) (otys : List OTy) (rt : List Ty)
    (g : HT tys → HO otys → (List SV → List Ob → Option R) → Option R) (hg : ∀ v w K r, g v w K = some r → runR T V A last L fn.ntmps rs c tys otys rt v w K = some r) : Good V.P f false (wrapF tys otys g) :=
  wrap_good (evF_good hV hT A (D := drawn T V A last) (fun nt ops s K r h => evDrawX_sound hV hT nt A last ops s K r h) hf hname hb hrs hL) tys otys g hg

theorem none_good {P : Program} {f : Nat} {R : Type} {F : CF R} (h : ∀ args objs K, F args objs K = none) : Good P f false F := fun args objs K r hc => by rw [h] at hc; cases hc

theorem wrap_none {R : Type} (tys : List Ty) (otys : List OTy) {g : HT tys → HO otys → (List SV → List Ob → Option R) → Option R} (h : ∀ v w K, g v w K = none) (args : List SV) (objs : List Ob) (K : List SV → List Ob → Option R) : wrapF tys otys g args objs K = none := by
  unfold wrapF
  cases patN tys args with
  | none => rfl
  | some v => cases patO otys objs with
    | none => rfl
    | some w => exact h v w K

/-- A loop's plain function answers for the loop. -/
theorem fn_loop {V : Env} (hV : EnvOk V) {R : Type} {T : Tab R} (hT : ∀ f mode F, T f = some (mode, F) → Good V.P f mode F) (A : Ann) (last : Nat → Bool) {nt : Nat} {L : Code → St → (Exit → St → Option R) → Option R} {c : Code}
    (hL : ∀ c' ∈ loops c, LoopOk V.P nt L c') (h : Shape) (lf : Nat → h.T → (Exit → St → Option R) → Option R) (n : Nat) (hl : ∀ s K, L c s K = ((h.dec (cutAt A c s)).bind fun v => lf n v K)) (h0 : ∀ v K, lf 0 v K = none)
    (hs : ∀ n v K r, lf (n + 1) v K = some r → evk T V A nt (drawn T V A last nt) L c (h.enc v) (loopK A c h.dec lf n K) = some r) : LoopOk V.P nt L c :=
  loop_ok hV hT A nt (fun ops s K r h => evDrawX_sound hV hT nt A last ops s K r h) hL h.dec h.enc (fun s v hd {w0 κ0 C0 hd0 g a w} hr => Shape.dec_rel hd hr) lf n hl h0 hs

theorem loops_nil {P : Program} {R : Type} {nt : Nat} {L : Code → St → (Exit → St → Option R) → Option R} {c : Code} (h : loops c = []) : ∀ c' ∈ loops c, LoopOk P nt L c' := fun c' hc => by rw [h] at hc; cases hc
theorem loops_one {P : Program} {R : Type} {nt : Nat} {L : Code → St → (Exit → St → Option R) → Option R} {c c1 : Code} (h : loops c = [c1]) (h1 : LoopOk P nt L c1) : ∀ c' ∈ loops c, LoopOk P nt L c' := fun c' hc => by
  rw [h, List.mem_singleton] at hc; subst hc; exact h1
theorem loops_two {P : Program} {R : Type} {nt : Nat} {L : Code → St → (Exit → St → Option R) → Option R} {c c1 c2 : Code} (h : loops c = [c1, c2]) (h1 : LoopOk P nt L c1) (h2 : LoopOk P nt L c2) : ∀ c' ∈ loops c, LoopOk P nt L c' := fun c' hc => by
  rw [h] at hc
  rcases List.mem_cons.1 hc with rfl | hc
  · exact h1
  · rw [List.mem_singleton] at hc; subst hc; exact h2
theorem loops_three {P : Program} {R : Type} {nt : Nat} {L : Code → St → (Exit → St → Option R) → Option R} {c c1 c2 c3 : Code} (h : loops c = [c1, c2, c3]) (h1 : LoopOk P nt L c1) (h2 : LoopOk P nt L c2) (h3 : LoopOk P nt L c3) : ∀ c' ∈ loops c, LoopOk P nt L c' := fun c' hc => by
  rw [h] at hc
  rcases List.mem_cons.1 hc with rfl | hc
  · exact h1
  · rcases List.mem_cons.1 hc with rfl | hc
    · exact h2
    · rw [List.mem_singleton] at hc; subst hc; exact h3

/-- Codes within a code, by a path. -/
def lbody : Code → Code
  | .loop c => c
  | _ => .skip
def nthLoop (c : Code) (i : Nat) : Code := match (loops c)[i]? with | some c' => c' | none => .skip
def bodyOf (fn : Func) : Code := match fn.body with | some c => c | none => .skip

/-- Types, told by lists. -/
def nats (l : List Nat) (t : Nat) : Bool := memb t l

theorem nats_mem {l : List Nat} {t : Nat} (h : nats l t = true) : t ∈ l := (memb_iff _ _).1 h

theorem look_mem {α : Type} : ∀ {l : List (Nat × α)} {t : Nat} {v : α}, look l t = some v → (t, v) ∈ l
  | [], t, v, h => by cases h
  | (a, b) :: r, t, v, h => by
    unfold look at h
    cases hb : Nat.beq a t with
    | true => rw [hb] at h; cases h; rw [Nat.eq_of_beq_eq_true hb]; simp
    | false => rw [hb] at h; simp [look_mem h]

/-- What is kept where a loop is left. -/
def outOf (l : List (Nat × List Nat)) (r : Option (List Nat)) : Exit → Option (List Nat)
  | .exit i => look l i
  | .ret => r
  | _ => none

def fieldOf (l : List (Nat × List Nat)) (t f : Nat) : Option Nat := (look l t).bind fun fs => fs[f]?

theorem fieldOf_mem {l : List (Nat × List Nat)} {t f off : Nat} (h : fieldOf l t f = some off) : ∃ fs, (t, fs) ∈ l ∧ fs[f]? = some off := by
  unfold fieldOf at h
  cases hl : look l t with
  | none => rw [hl] at h; cases h
  | some fs => rw [hl] at h; exact ⟨fs, look_mem hl, h⟩

end Go.Proofs.Ytmmadcccjicdcaa.E
