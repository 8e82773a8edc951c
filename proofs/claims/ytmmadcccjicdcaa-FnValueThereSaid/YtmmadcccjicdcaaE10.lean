/- Plain values for what an abstract run holds; a function's meaning as a plain function. -/
import Derived.Test.YtmmadcccjicdcaaE9m
namespace Go.Proofs.Ytmmadcccjicdcaa.E
set_option linter.unusedVariables false
set_option linter.unusedSimpArgs false

/-- Kinds of simple values. -/
inductive Ty where
  | int (k : IntKind)
  | bool
  | str
  | sl (l : Bool) (e : TypeId) (E : El)
  | slo (j : Nat)
  | ref (j o : Nat)
  | clo (f : Nat) (caps : List Nat)
  | nil
  | undef
  | mark
  | tab (l : Bool) (k : Nat)
  | rows (l : Bool) (e : TypeId)

abbrev Ty.T : Ty → Type
  | .int _ => Int
  | .bool => Bool
  | .str => List UInt8
  | .sl _ _ E => List E.T
  | .tab _ _ => List Int
  | .rows _ _ => List (List Int)
  | _ => Unit

def Ty.unp : (t : Ty) → t.T → SV
  | .int k, n => .int k n
  | .bool, b => .bool b
  | .str, s => .str s
  | .sl l e E, xs => .sl l e E xs
  | .slo j, _ => .slo j
  | .ref j o, _ => .ref j o
  | .clo f caps, _ => .clo f caps
  | .nil, _ => .nil
  | .undef, _ => .undef
  | .mark, _ => .mark
  | .tab l k, ns => .sh l (.tab k ns)
  | .rows l e, xss => .sh l (.rows e xss)

def natsB : List Nat → List Nat → Bool
  | [], [] => true
  | a :: r, b :: l => Nat.beq a b && natsB r l
  | _, _ => false

def Ty.pat : (t : Ty) → SV → Option t.T
  | .int k, .int k' n => cond (decide (k = k')) (some n) none
  | .bool, .bool b => some b
  | .str, .str s => some s
  | .sl l e E, .sl l' e' E' xs => cond ((!l' || l) && Nat.beq e e') (E.cast E' xs) none
  | .slo j, .slo j' => cond (Nat.beq j j') (some ()) none
  | .ref j o, .ref j' o' => cond (Nat.beq j j' && Nat.beq o o') (some ()) none
  | .clo f caps, .clo f' caps' => cond (Nat.beq f f' && natsB caps caps') (some ()) none
  | .nil, .nil => some ()
  | .undef, _ => some ()
  | .mark, .mark => some ()
  | .tab l k, .sh l' (.tab k' ns) => cond ((!l' || l) && Nat.beq k k') (some ns) none
  | .rows l e, .sh l' (.rows e' xss) => cond ((!l' || l) && Nat.beq e e') (some xss) none
  | _, _ => none

/-- As an argument nil is an empty list. -/
def Ty.patN : (t : Ty) → SV → Option t.T
  | .sl _ e E, .nil => some []
  | t, v => t.pat v

abbrev HT : List Ty → Type
  | [] => Unit
  | t :: r => t.T × HT r

def unpL : (l : List Ty) → HT l → List SV
  | [], _ => []
  | t :: r, v => t.unp v.1 :: unpL r v.2

def patL : (l : List Ty) → List SV → Option (HT l)
  | [], [] => some ()
  | t :: r, v :: vs => (t.pat v).bind fun x => (patL r vs).bind fun y => some (x, y)
  | _, _ => none

def patN : (l : List Ty) → List SV → Option (HT l)
  | [], [] => some ()
  | t :: r, v :: vs => (t.patN v).bind fun x => (patN r vs).bind fun y => some (x, y)
  | _, _ => none

inductive OTy where
  | cells (ty : TypeId) (cs : List Ty)
  | arr (e : TypeId) (E : El)

abbrev OTy.T : OTy → Type
  | .cells _ cs => HT cs
  | .arr _ E => List E.T

def OTy.unp : (t : OTy) → t.T → Ob
  | .cells ty cs, v => .cells ty (unpL cs v)
  | .arr e E, xs => .arr e E xs

def OTy.pat : (t : OTy) → Ob → Option t.T
  | .cells ty cs, .cells ty' vs => cond (Nat.beq ty ty') (patL cs vs) none
  | .arr e E, .arr e' E' xs => cond (Nat.beq e e') (E.cast E' xs) none
  | _, _ => none

abbrev HO : List OTy → Type
  | [] => Unit
  | t :: r => t.T × HO r

def unpO : (l : List OTy) → HO l → List Ob
  | [], _ => []
  | t :: r, v => t.unp v.1 :: unpO r v.2

def patO : (l : List OTy) → List Ob → Option (HO l)
  | [], [] => some ()
  | t :: r, v :: vs => (t.pat v).bind fun x => (patO r vs).bind fun y => some (x, y)
  | _, _ => none

theorem El.cast_eq : ∀ {E E' : El} {xs : List E'.T} {ys : List E.T}, E.cast E' xs = some ys → ∃ h : E' = E, h ▸ xs = ys := by
  intro E E' xs ys h
  cases E <;> cases E' <;> simp only [El.cast] at h
  · rename_i k k'
    cases hk : decide (k = k') with
    | false => rw [hk] at h; cases h
    | true =>
      rw [hk] at h
      have := of_decide_eq_true hk
      subst this
      cases h
      exact ⟨rfl, rfl⟩
  · cases h
  · cases h
  · cases h; exact ⟨rfl, rfl⟩

theorem natsB_eq : ∀ {a b : List Nat}, natsB a b = true → a = b
  | [], [], _ => rfl
  | a :: r, b :: l, h => by
    simp only [natsB, Bool.and_eq_true] at h
    rw [Nat.eq_of_beq_eq_true h.1, natsB_eq h.2]
  | [], _ :: _, h => by cases h
  | _ :: _, [], h => by cases h

/-- `undef` forgets: what is left agrees with the state at hand. -/
def Less (a b : SV) : Prop := ∀ {g : G} {w : World} {v : Value}, rep g w b v → rep g w a v

theorem Less.eq {a b : SV} (h : a = b) : Less a b := by subst h; exact fun {g w v} hr => hr

theorem Ty.pat_spec : ∀ (t : Ty) (v : SV) (x : t.T), t.pat v = some x → Less (t.unp x) v := by
  intro t v x h
  cases t with
  | undef => exact fun {g w v} _ => trivial
  | int k =>
    cases v <;> simp only [Ty.pat] at h <;> try cases h
    rename_i k' n
    cases hk : decide (k = k') with
    | false => rw [hk] at h; cases h
    | true => rw [hk] at h; cases h; exact Less.eq (by rw [of_decide_eq_true hk]; rfl)
  | bool => cases v <;> simp only [Ty.pat] at h <;> cases h; exact Less.eq rfl
  | str => cases v <;> simp only [Ty.pat] at h <;> cases h; exact Less.eq rfl
  | sl l e E =>
    cases v <;> simp only [Ty.pat] at h <;> try cases h
    rename_i l' e' E' xs
    cases hk : ((!l' || l) && Nat.beq e e') with
    | false => rw [hk] at h; cases h
    | true =>
      rw [hk] at h
      obtain ⟨h1, h2⟩ := El.cast_eq h
      subst h1
      cases h2
      rw [Bool.and_eq_true] at hk
      have he := Nat.eq_of_beq_eq_true hk.2
      subst he
      intro g w v hr
      obtain ⟨A, c, h1, h2, h3⟩ := hr
      exact ⟨A, c, h1, h2, fun hne => by
        obtain ⟨b, o, h4, ⟨m, hm, h5⟩, h6⟩ := h3 hne
        exact ⟨b, o, h4, ⟨m, fun e => by have := hm e; rw [this] at hk; simpa using hk.1, h5⟩, h6⟩⟩
  | slo j =>
    cases v <;> simp only [Ty.pat] at h <;> try cases h
    rename_i j'
    cases hk : Nat.beq j j' with
    | false => rw [hk] at h; cases h
    | true => exact Less.eq (by rw [Nat.eq_of_beq_eq_true hk]; rfl)
  | ref j o =>
    cases v <;> simp only [Ty.pat] at h <;> try cases h
    rename_i j' o'
    cases hk : (Nat.beq j j' && Nat.beq o o') with
    | false => rw [hk] at h; cases h
    | true =>
      rw [Bool.and_eq_true] at hk
      exact Less.eq (by rw [Nat.eq_of_beq_eq_true hk.1, Nat.eq_of_beq_eq_true hk.2]; rfl)
  | clo f caps =>
    cases v <;> simp only [Ty.pat] at h <;> try cases h
    rename_i f' caps'
    cases hk : (Nat.beq f f' && natsB caps caps') with
    | false => rw [hk] at h; cases h
    | true =>
      rw [Bool.and_eq_true] at hk
      exact Less.eq (by rw [Nat.eq_of_beq_eq_true hk.1, natsB_eq hk.2]; rfl)
  | nil => cases v <;> simp only [Ty.pat] at h <;> cases h; exact Less.eq rfl
  | mark => cases v <;> simp only [Ty.pat] at h <;> cases h; exact Less.eq rfl
  | tab l k =>
    cases v <;> simp only [Ty.pat] at h <;> try cases h
    rename_i l' z
    cases z <;> simp only [Ty.pat] at h <;> try cases h
    rename_i k' ns
    cases hk : ((!l' || l) && Nat.beq k k') with
    | false => rw [hk] at h; cases h
    | true =>
      rw [hk] at h
      cases h
      rw [Bool.and_eq_true] at hk
      have he := Nat.eq_of_beq_eq_true hk.2
      subst he
      intro g w v hr
      have hr' : shRep g w l' (.tab k x) v := hr
      show shRep g w l (.tab k x) v
      exact shRep_lift (fun e => by rw [e] at hk; simpa using hk.1) hr'
  | rows l e =>
    cases v <;> simp only [Ty.pat] at h <;> try cases h
    rename_i l' z
    cases z <;> simp only [Ty.pat] at h <;> try cases h
    rename_i e' xss
    cases hk : ((!l' || l) && Nat.beq e e') with
    | false => rw [hk] at h; cases h
    | true =>
      rw [hk] at h
      cases h
      rw [Bool.and_eq_true] at hk
      have he := Nat.eq_of_beq_eq_true hk.2
      subst he
      intro g w v hr
      have hr' : shRep g w l' (.rows e x) v := hr
      show shRep g w l (.rows e x) v
      exact shRep_lift (fun e => by rw [e] at hk; simpa using hk.1) hr'

theorem less_rep {g : G} {w : World} {a b : SV} {v : Value} (h : Less a b) (hr : rep g w b v) : rep g w a v := by
  exact h hr

theorem nil_rep {g : G} {w : World} {l : Bool} {e : TypeId} {E : El} {v : Value} (hr : rep g w .nil v) : rep g w (.sl l e E []) v := by
  cases hr
  exact ⟨none, 0, rfl, Nat.le_refl _, fun h => absurd rfl h⟩

theorem Ty.patN_rep (t : Ty) (sv : SV) (x : t.T) (h : t.patN sv = some x) {g : G} {w : World} {v : Value} (hr : rep g w sv v) : rep g w (t.unp x) v := by
  unfold Ty.patN at h
  split at h
  · cases h; exact nil_rep hr
  · exact less_rep (Ty.pat_spec _ _ _ h) hr

theorem patL_spec : ∀ (l : List Ty) (vs : List SV) (x : HT l), patL l vs = some x → vs.length = (unpL l x).length ∧ ∀ (i : Nat) a, (unpL l x)[i]? = some a → ∃ b, vs[i]? = some b ∧ Less a b
  | [], [], x, h => ⟨rfl, fun i a h => by simp [unpL] at h⟩
  | [], _ :: _, x, h => by cases h
  | _ :: _, [], x, h => by cases h
  | t :: r, v :: vs, x, h => by
    unfold patL at h
    cases hp : t.pat v with
    | none => rw [hp] at h; cases h
    | some y =>
      rw [hp] at h
      cases hq : patL r vs with
      | none => rw [hq] at h; cases h
      | some z =>
        rw [hq] at h
        cases h
        obtain ⟨h1, h2⟩ := patL_spec r vs z hq
        refine ⟨by simp [unpL, h1], fun i a ha => ?_⟩
        cases i with
        | zero => simp only [unpL, List.getElem?_cons_zero, Option.some.injEq] at ha; subst ha; exact ⟨v, rfl, Ty.pat_spec _ _ _ hp⟩
        | succ i => simpa using h2 i a (by simpa [unpL] using ha)

theorem patN_spec : ∀ (l : List Ty) (vs : List SV) (x : HT l), patN l vs = some x → vs.length = (unpL l x).length ∧
    ∀ (i : Nat) a, (unpL l x)[i]? = some a → ∃ b, vs[i]? = some b ∧ ∀ {g w v}, rep g w b v → rep g w a v
  | [], [], x, h => ⟨rfl, fun i a h => by simp [unpL] at h⟩
  | [], _ :: _, x, h => by cases h
  | _ :: _, [], x, h => by cases h
  | t :: r, v :: vs, x, h => by
    unfold patN at h
    cases hp : t.patN v with
    | none => rw [hp] at h; cases h
    | some y =>
      rw [hp] at h
      cases hq : patN r vs with
      | none => rw [hq] at h; cases h
      | some z =>
        rw [hq] at h
        cases h
        obtain ⟨h1, h2⟩ := patN_spec r vs z hq
        refine ⟨by simp [unpL, h1], fun i a ha => ?_⟩
        cases i with
        | zero => simp only [unpL, List.getElem?_cons_zero, Option.some.injEq] at ha; subst ha; exact ⟨v, rfl, fun {g w v} hr => Ty.patN_rep _ _ _ hp hr⟩
        | succ i => simpa using h2 i a (by simpa [unpL] using ha)

theorem OTy.pat_rep (t : OTy) (ob : Ob) (x : t.T) (h : t.pat ob = some x) {g : G} {w : World} {j : Nat} (hr : obRep g w j ob) : obRep g w j (t.unp x) := by
  cases t with
  | cells ty cs =>
    cases ob <;> simp only [OTy.pat] at h
    · rename_i ty' vs
      cases hk : Nat.beq ty ty' with
      | false => rw [hk] at h; cases h
      | true =>
        rw [hk] at h
        have he := Nat.eq_of_beq_eq_true hk
        subst he
        obtain ⟨h1, h2⟩ := patL_spec cs vs x h
        obtain ⟨b, us, h3, h4, h5, h6, h7⟩ := hr
        refine ⟨b, us, h3, h4, h5, by rw [h6, h1], fun i sv hi => ?_⟩
        obtain ⟨u, hu, hl⟩ := h2 i sv hi
        exact less_rep hl (h7 i u hu)
    · cases h
  | arr e E =>
    cases ob <;> simp only [OTy.pat] at h
    · cases h
    · rename_i e' E' xs
      cases hk : Nat.beq e e' with
      | false => rw [hk] at h; cases h
      | true =>
        rw [hk] at h
        obtain ⟨h1, h2⟩ := El.cast_eq h
        subst h1
        cases h2
        have he := Nat.eq_of_beq_eq_true hk
        subst he
        exact hr

theorem OTy.pat_cells (t : OTy) (ob : Ob) (x : t.T) (h : t.pat ob = some x) : cellsOb (some (t.unp x)) = cellsOb (some ob) := by
  cases t <;> cases ob <;> first | rfl | cases h

theorem patO_spec : ∀ (l : List OTy) (vs : List Ob) (x : HO l), patO l vs = some x → vs.length = (unpO l x).length ∧
    ∀ (i : Nat) a, (unpO l x)[i]? = some a → ∃ b, vs[i]? = some b ∧ cellsOb (some a) = cellsOb (some b) ∧ ∀ {g w j}, obRep g w j b → obRep g w j a
  | [], [], x, h => ⟨rfl, fun i a h => by simp [unpO] at h⟩
  | [], _ :: _, x, h => by cases h
  | _ :: _, [], x, h => by cases h
  | t :: r, v :: vs, x, h => by
    unfold patO at h
    cases hp : t.pat v with
    | none => rw [hp] at h; cases h
    | some y =>
      rw [hp] at h
      cases hq : patO r vs with
      | none => rw [hq] at h; cases h
      | some z =>
        rw [hq] at h
        cases h
        obtain ⟨h1, h2⟩ := patO_spec r vs z hq
        refine ⟨by simp [unpO, h1], fun i a ha => ?_⟩
        cases i with
        | zero => simp only [unpO, List.getElem?_cons_zero, Option.some.injEq] at ha; subst ha; exact ⟨v, rfl, OTy.pat_cells _ _ _ hp, fun {g w j} hr => OTy.pat_rep _ _ _ hp hr⟩
        | succ i => simpa using h2 i a (by simpa [unpO] using ha)

/-- A plain function as a table's entry. -/
def wrapF {R : Type} (tys : List Ty) (otys : List OTy) (g : HT tys → HO otys → (List SV → List Ob → Option R) → Option R) : CF R := fun args objs K =>
  (patN tys args).bind fun v => (patO otys objs).bind fun w => g v w K

theorem wrap_good {P : Program} {f : Nat} {R : Type} {F : CF R} (h : Good P f false F) (tys : List Ty) (otys : List OTy) (g : HT tys → HO otys → (List SV → List Ob → Option R) → Option R)
    (hg : ∀ v w K r, g v w K = some r → F (unpL tys v) (unpO otys w) K = some r) : Good P f false (wrapF tys otys g) := by
  intro args objs K r hc
  unfold wrapF at hc
  cases h1 : patN tys args with
  | none => rw [h1] at hc; cases hc
  | some v =>
    rw [h1] at hc
    cases h2 : patO otys objs with
    | none => rw [h2] at hc; cases hc
    | some u =>
      rw [h2] at hc
      obtain ⟨res, objs', hK, hcall⟩ := h _ _ _ _ (hg v u K r hc)
      obtain ⟨h3, h4⟩ := patN_spec tys args v h1
      obtain ⟨h5, h6⟩ := patO_spec otys objs u h2
      refine ⟨res, objs', hK, fun g vals w hf ho hl ha hn => ?_⟩
      have := hcall g vals w hf (fun j ob hj => by
        obtain ⟨b, hb, _, hr⟩ := h6 j ob hj
        exact hr (ho j b hb)) (by omega) (fun i sv hi => by
        obtain ⟨b, hb, hr⟩ := h4 i sv hi
        exact hr (ha i b hb)) (by omega)
      refine this.mono fun v w' ⟨g', hok, _, hr⟩ => ⟨g', ⟨hok.os, hok.tape, hok.output, hok.size, hok.old, hok.fresh, hok.obs, fun j hj => hok.c0 j ?_⟩, by simp, hr⟩
      cases hx : (unpO otys u)[j]? with
      | none =>
        have := List.getElem?_eq_none_iff.1 hx
        rw [List.getElem?_eq_none (by omega)] at hj
        exact hj.elim
      | some a =>
        obtain ⟨b, hb, hc, _⟩ := h6 j a hx
        rw [hb] at hj
        rw [hc]
        exact hj

/-- What a call made is shared from now on. -/
def finV (m : Nat) (objs : List Ob) : SV → SV
  | .slo k => cond (Nat.blt k m) (.slo k) (match objs[k]? with | some (.arr e E xs) => .sl false e E xs | _ => .undef)
  | .ea (some k) e E xs i => cond (Nat.blt k m) (.ea (some k) e E xs i) .undef
  | v => v
def killM (m : Nat) : SV → SV
  | .ea (some k) e E xs i => cond (Nat.blt k m) (.ea (some k) e E xs i) .undef
  | v => v
def finO (m : Nat) (objs : List Ob) : List Ob := (objs.take m).map (Ob.map (killM m))
def coe1 : Ty → SV → SV
  | .sl l e E, .nil => .sl l e E []
  | .sl true e E, .sl _ e' E' xs => .sl true e' E' xs
  | _, v => v
def coeR : List Ty → List SV → List SV
  | t :: r, v :: vs => coe1 t v :: coeR r vs
  | _, vs => vs

def finG (m : Nat) (g : G) : G := ⟨fun b => match g.κ b with | .obj k => if k < m then .obj k else .shared false | c => c, g.hd⟩

theorem finG_shared {m : Nat} {g : G} {b : Nat} {l : Bool} (h : g.κ b = .shared l) : (finG m g).κ b = .shared l := by simp only [finG, h]
theorem finG_obj {m : Nat} {g : G} {b k : Nat} (h : g.κ b = .obj k) (hk : k < m) : (finG m g).κ b = .obj k := by simp only [finG, h, hk, if_true]
theorem finG_obj' {m : Nat} {g : G} {b k : Nat} (h : g.κ b = .obj k) (hk : ¬ k < m) : (finG m g).κ b = .shared false := by simp only [finG, h, hk, if_false]

theorem killM_rep {m : Nat} {g : G} {w : World} {sv : SV} {v : Value} (hr : rep g w sv v) : rep (finG m g) w (killM m sv) v := by
  cases sv with
  | undef => trivial
  | mark => trivial
  | sh l x => exact shRep_keep (fun b m _ hk => ⟨finG_shared hk, rfl⟩) hr
  | nil => exact hr
  | int k n => exact hr
  | bool b => exact hr
  | str l => exact hr
  | sl l e E xs =>
    obtain ⟨A, c, h1, h2, h3⟩ := hr
    exact ⟨A, c, h1, h2, fun hne => by obtain ⟨b, o, h4, ⟨m, hm, h5⟩, h6⟩ := h3 hne; exact ⟨b, o, h4, ⟨m, hm, finG_shared h5⟩, h6⟩⟩
  | slo k => exact hr
  | ea ow e E xs i =>
    cases ow with
    | none =>
      obtain ⟨h0, h1, b, o, h2, ⟨m, h3⟩, h4⟩ := hr
      exact ⟨h0, h1, b, o, h2, ⟨m, finG_shared h3⟩, h4⟩
    | some k =>
      simp only [killM]
      cases hk : Nat.blt k m with
      | false => trivial
      | true =>
        obtain ⟨h0, h1, b, h2, h3, h4⟩ := hr
        exact ⟨h0, h1, b, h2, finG_obj h3 (by simpa using hk), h4⟩
  | ref j o => exact hr
  | clo c caps => exact hr

theorem finV_rep {m : Nat} {g : G} {w : World} {objs : List Ob} (ho : ∀ k ob, objs[k]? = some ob → obRep g w k ob) {sv : SV} {v : Value} (hr : rep g w sv v) : rep (finG m g) w (finV m objs sv) v := by
  cases sv with
  | slo k =>
    simp only [finV]
    cases hk : Nat.blt k m with
    | true => exact hr
    | false =>
      simp only [cond_false]
      split
      · rename_i e E xs hx
        obtain ⟨h1, h2⟩ := ho k _ hx
        have hv : v = g.hd k := hr.1
        subst hv
        exact own_shared h1 (m := false) (by simp) fun b hb => finG_obj' (h2 b hb) (fun h => by rw [show Nat.blt k m = true by simpa using h] at hk; cases hk)
      · trivial
  | undef => exact killM_rep (m := m) hr
  | mark => exact killM_rep (m := m) hr
  | sh l x => exact killM_rep (m := m) hr
  | nil => exact killM_rep (m := m) hr
  | int k n => exact killM_rep (m := m) hr
  | bool b => exact killM_rep (m := m) hr
  | str l => exact killM_rep (m := m) hr
  | sl l e E xs => exact killM_rep (m := m) hr
  | ea ow e E xs i => cases ow <;> exact killM_rep (m := m) hr
  | ref j o => exact killM_rep (m := m) hr
  | clo c caps => exact killM_rep (m := m) hr

theorem finV_mark (m : Nat) (objs : List Ob) (v : SV) : (finV m objs v).isMark = v.isMark := by
  cases v with
  | slo k =>
    simp only [finV]
    cases Nat.blt k m with
    | true => rfl
    | false => simp only [cond_false]; split <;> rfl
  | ea ow e E xs i =>
    cases ow with
    | none => rfl
    | some k => simp only [finV]; cases Nat.blt k m <;> rfl
  | _ => rfl

theorem coe1_mark (t : Ty) (v : SV) : (coe1 t v).isMark = v.isMark := by
  unfold coe1
  split <;> rfl

theorem coe1_rep (t : Ty) {g : G} {w : World} {sv : SV} {v : Value} (hr : rep g w sv v) : rep g w (coe1 t sv) v := by
  unfold coe1
  split
  · exact nil_rep hr
  · obtain ⟨A, c, h1, h2, h3⟩ := hr
    exact ⟨A, c, h1, h2, fun hne => by obtain ⟨b, o, h4, ⟨m, hm, h5⟩, h6⟩ := h3 hne; exact ⟨b, o, h4, ⟨m, fun _ => rfl, h5⟩, h6⟩⟩
  · exact hr

theorem coeR_rep : ∀ (l : List Ty) {g : G} {w : World} (res : List SV) (v : Value), resRep g w res v → resRep g w (coeR l res) v := by
  intro l g w res v h
  have hlen : ∀ (l : List Ty) (res : List SV), (coeR l res).length = res.length := by
    intro l
    induction l with
    | nil => intro res; simp [coeR]
    | cons t r ih => intro res; cases res with
      | nil => rfl
      | cons a b => simp [coeR, ih b]
  have hmk : ∀ (l : List Ty) (res : List SV), (∀ a r, res = a :: r → ∃ b r', coeR l res = b :: r' ∧ b.isMark = a.isMark) := by
    intro l res a r e
    subst e
    cases l with
    | nil => exact ⟨a, r, rfl, rfl⟩
    | cons t l => exact ⟨coe1 t a, coeR l r, rfl, coe1_mark t a⟩
  have hget : ∀ (l : List Ty) (res : List SV) (i : Nat) sv, (coeR l res)[i]? = some sv → ∃ u, res[i]? = some u ∧ ∀ v, rep g w u v → rep g w sv v := by
    intro l
    induction l with
    | nil => intro res i sv h; simp only [coeR] at h; exact ⟨sv, h, fun v h => h⟩
    | cons t r ih => intro res i sv h; cases res with
      | nil => simp [coeR] at h
      | cons a b =>
        cases i with
        | zero => simp only [coeR, List.getElem?_cons_zero, Option.some.injEq] at h; subst h; exact ⟨a, rfl, fun v hr => coe1_rep t hr⟩
        | succ i => exact ih b i sv (by simpa [coeR] using h)
  have h1 := hlen l res
  have h2 := hget l res
  have h0 := hmk l res
  generalize coeR l res = res' at h0 h1 h2
  unfold resRep at *
  match res, res', h1 with
  | [], [], _ => exact h
  | [a], [b], _ =>
    obtain ⟨u, hu, hr⟩ := h2 0 b rfl
    cases hu
    exact hr v h
  | a :: a' :: r, b :: b' :: r', hl =>
    obtain ⟨b2, r2, e, hm⟩ := h0 a (a' :: r) rfl
    cases e
    have h : repA g w (cond a.isMark (.agg (a' :: r)) (.tup (a :: a' :: r))) v := h
    show repA g w (cond b.isMark (.agg (b' :: r')) (.tup (b :: b' :: r'))) v
    rw [hm]
    cases hma : a.isMark with
    | false =>
      rw [hma] at h
      obtain ⟨xs, h3, h4, h5⟩ := h
      refine ⟨xs, h3, by rw [h4]; simpa using hl.symm, fun i sv hi => ?_⟩
      obtain ⟨u, hu, hr⟩ := h2 i sv hi
      exact hr _ (h5 i u hu)
    | true =>
      rw [hma] at h
      obtain ⟨xs, h3, h4, h5⟩ := h
      refine ⟨xs, h3, by rw [h4]; simpa using hl.symm, fun i sv hi => ?_⟩
      obtain ⟨u, hu, hr⟩ := h2 (i + 1) sv (by simpa using hi)
      exact hr _ (h5 i u (by simpa using hu))

theorem Good.fin {P : Program} {f : Nat} {R : Type} {F : CF R} (h : Good P f false F) (rt : List Ty) :
    Good P f false (fun args objs K => F args objs fun res objs' => K (coeR rt (res.map (finV objs.length objs'))) (finO objs.length objs')) := by
  intro args objs K r hc
  obtain ⟨res, objs', hK, hcall⟩ := h _ _ _ _ hc
  refine ⟨_, _, hK, fun g vals w hf ho hl ha hn => ?_⟩
  refine (hcall g vals w hf ho hl ha hn).mono fun v w' ⟨g', hok, _, hr⟩ => ⟨finG objs.length g', ⟨hok.os, hok.tape, hok.output, hok.size, fun b hb hne => ?_, fun b hb => ?_, fun j ob hj => ?_, fun j hj => ?_⟩, by simp, ?_⟩
  · obtain ⟨h1, h2⟩ := hok.old b hb hne
    refine ⟨h1, ?_⟩
    cases hk : g'.κ b with
    | none => simp only [finG, hk]; rw [← h2, hk]
    | shared l => simp only [finG, hk]; rw [← h2, hk]
    | obj j => exact absurd (h2 ▸ hk) (hne j)
  · simp only [finG, hok.fresh b hb]
  · have hj' : ((objs'.take objs.length).map (Ob.map (killM objs.length)))[j]? = some ob := hj
    rw [List.getElem?_map, List.getElem?_take] at hj'
    split at hj'
    · rename_i hlt
      cases hx : objs'[j]? with
      | none => rw [hx] at hj'; cases hj'
      | some ob0 =>
        rw [hx] at hj'
        cases hj'
        have hob := hok.obs j ob0 hx
        cases ob0 with
        | cells ty cs =>
          obtain ⟨b, us, h3, h4, h5, h6, h7⟩ := hob
          refine ⟨b, us, h3, finG_obj h4 hlt, h5, by simpa using h6, fun i sv hi => ?_⟩
          rw [List.getElem?_map] at hi
          cases hy : cs[i]? with
          | none => rw [hy] at hi; cases hi
          | some u => rw [hy] at hi; cases hi; exact killM_rep (h7 i u hy)
        | arr e E xs => exact ⟨hob.1, fun b hb => finG_obj (hob.2 b hb) hlt⟩
    · cases hj'
  · obtain ⟨h1, h2, h3⟩ := hok.c0 j hj
    refine ⟨h1, h2, fun e E xs hx => ?_⟩
    have hx : ((objs'.take objs.length).map (Ob.map (killM objs.length)))[j]? = _ := hx
    rw [List.getElem?_map, List.getElem?_take] at hx
    split at hx
    · cases hy : objs'[j]? with
      | none => rw [hy] at hx; cases hx
      | some ob0 =>
        rw [hy] at hx
        cases ob0 with
        | cells _ _ => cases hx
        | arr e' E' xs' => exact h3 _ _ _ hy
    · cases hx
  · exact coeR_rep rt _ _ (repA_res (finV_mark _ _) res v (fun sv _ v hr => finV_rep hok.obs hr) hr)


/-- A state of known shape. -/
def encSl : (l : List (Nat × Ty)) → HT (l.map (·.2)) → List (Nat × AV)
  | [], _ => []
  | (t, ty) :: r, v => (t, .s (ty.unp v.1)) :: encSl r v.2

def decSl : (l : List (Nat × Ty)) → List (Nat × AV) → Option (HT (l.map (·.2)))
  | [], [] => some ()
  | (t, ty) :: r, (t', .s v) :: vs => cond (Nat.beq t t') ((ty.pat v).bind fun x => (decSl r vs).bind fun y => some (x, y)) none
  | _, _ => none

def encH : (l : List (Nat × OTy)) → HO (l.map (·.2)) → List (Nat × Ob)
  | [], _ => []
  | (t, ty) :: r, v => (t, ty.unp v.1) :: encH r v.2

def decH : (l : List (Nat × OTy)) → List (Nat × Ob) → Option (HO (l.map (·.2)))
  | [], [] => some ()
  | (t, ty) :: r, (t', v) :: vs => cond (Nat.beq t t') ((ty.pat v).bind fun x => (decH r vs).bind fun y => some (x, y)) none
  | _, _ => none

structure Shape where
  sl : List (Nat × Ty)
  ob : List (Nat × OTy)

abbrev Shape.T (h : Shape) : Type := HT (h.sl.map (·.2)) × HO (h.ob.map (·.2))
def Shape.enc (h : Shape) (v : h.T) : St := ⟨encSl h.sl v.1, encH h.ob v.2⟩
def Shape.dec (h : Shape) (s : St) : Option h.T := (decSl h.sl s.sl).bind fun x => (decH h.ob s.H).bind fun y => some (x, y)

theorem decSl_spec : ∀ (l : List (Nat × Ty)) (vs : List (Nat × AV)) (x), decSl l vs = some x → ∀ t, (∃ sv, look (encSl l x) t = some (.s sv) ∧ ∃ u, look vs t = some (.s u) ∧ Less sv u) ∨ (look (encSl l x) t = none)
  | [], [], x, h, t => .inr rfl
  | [], _ :: _, x, h, t => by cases h
  | _ :: _, [], x, h, t => by cases h
  | (k, ty) :: r, (k', .tup v) :: vs, x, h, t => by cases h
  | (k, ty) :: r, (k', .agg v) :: vs, x, h, t => by cases h
  | (k, ty) :: r, (k', .s v) :: vs, x, h, t => by
    unfold decSl at h
    cases hk : Nat.beq k k' with
    | false => rw [hk] at h; cases h
    | true =>
      rw [hk] at h
      simp only [cond_true] at h
      have he := Nat.eq_of_beq_eq_true hk
      subst he
      cases hp : ty.pat v with
      | none => rw [hp] at h; cases h
      | some y =>
        rw [hp] at h
        cases hq : decSl r vs with
        | none => rw [hq] at h; cases h
        | some z =>
          rw [hq] at h
          cases h
          by_cases hkt : k = t
          · subst hkt
            refine .inl ⟨ty.unp y, ?_, v, ?_, Ty.pat_spec _ _ _ hp⟩
            · show look ((k, _) :: _) k = _
              rw [look_cons]; simp
            · rw [look_cons]; simp
          · rcases decSl_spec r vs z hq t with ⟨sv, h1, u, h2, h3⟩ | h1
            · refine .inl ⟨sv, ?_, u, ?_, h3⟩
              · show look ((k, _) :: _) t = _
                rw [look_cons, if_neg hkt]; exact h1
              · rw [look_cons, if_neg hkt]; exact h2
            · right
              show look ((k, _) :: _) t = _
              rw [look_cons, if_neg hkt]; exact h1

theorem decH_spec : ∀ (l : List (Nat × OTy)) (vs : List (Nat × Ob)) (x), decH l vs = some x → ∀ t ob, look (encH l x) t = some ob → ∃ b, look vs t = some b ∧ cellsOb (some ob) = cellsOb (some b) ∧ ∀ {g w j}, obRep g w j b → obRep g w j ob
  | [], [], x, h, t, ob, ho => by cases ho
  | [], _ :: _, x, h, t, ob, ho => by cases h
  | _ :: _, [], x, h, t, ob, ho => by cases h
  | (k, ty) :: r, (k', v) :: vs, x, h, t, ob, ho => by
    unfold decH at h
    cases hk : Nat.beq k k' with
    | false => rw [hk] at h; cases h
    | true =>
      rw [hk] at h
      simp only [cond_true] at h
      have he := Nat.eq_of_beq_eq_true hk
      subst he
      cases hp : ty.pat v with
      | none => rw [hp] at h; cases h
      | some y =>
        rw [hp] at h
        cases hq : decH r vs with
        | none => rw [hq] at h; cases h
        | some z =>
          rw [hq] at h
          cases h
          have ho : look ((k, ty.unp y) :: encH r z) t = some ob := ho
          rw [look_cons] at ho ⊢
          by_cases hkt : k = t
          · subst hkt
            simp only [if_true, Option.some.injEq] at ho ⊢
            subst ho
            exact ⟨v, rfl, OTy.pat_cells _ _ _ hp, fun {g w j} hr => OTy.pat_rep _ _ _ hp hr⟩
          · simp only [hkt, if_false] at ho ⊢
            exact decH_spec r vs z hq t ob ho

theorem Shape.dec_rel {h : Shape} {s : St} {v : h.T} (hd : h.dec s = some v) {nt w0 κ0 C0 hd0 g a w} (hr : Rel nt w0 κ0 C0 hd0 g s a w) : Rel nt w0 κ0 C0 hd0 g (h.enc v) a w := by
  unfold Shape.dec at hd
  cases h1 : decSl h.sl s.sl with
  | none => rw [h1] at hd; cases hd
  | some x =>
    rw [h1] at hd
    cases h2 : decH h.ob s.H with
    | none => rw [h2] at hd; cases hd
    | some y =>
      rw [h2] at hd
      cases hd
      refine ⟨⟨hr.ok.os, hr.ok.tape, hr.ok.output, hr.ok.size, hr.ok.old, hr.ok.fresh, fun j ob hj => ?_, fun j hj => ?_⟩, fun t => ?_, hr.nt, hr.df⟩
      · obtain ⟨b, hb, _, hrep⟩ := decH_spec _ _ _ h2 j ob hj
        exact hrep (hr.ok.obs j b hb)
      · obtain ⟨h3, h4, h5⟩ := hr.ok.c0 j hj
        refine ⟨h3, h4, fun e E xs hx => ?_⟩
        obtain ⟨b, hb, hc, _⟩ := decH_spec _ _ _ h2 j _ hx
        cases b with
        | cells _ _ => simp [cellsOb] at hc
        | arr e' E' xs' => exact h5 _ _ _ hb
      · have hs := hr.slots t
        unfold St.get at *
        rcases decSl_spec _ _ _ h1 t with ⟨sv, h3, u, h4, h5⟩ | h3
        · rw [h4] at hs
          have : look (Shape.enc h (x, y)).sl t = some (.s sv) := h3
          rw [this]
          exact less_rep h5 hs
        · have : look (Shape.enc h (x, y)).sl t = none := h3
          rw [this]
          trivial

end Go.Proofs.Ytmmadcccjicdcaa.E
