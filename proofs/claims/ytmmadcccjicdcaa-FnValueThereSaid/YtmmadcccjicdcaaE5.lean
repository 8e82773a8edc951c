/- What is known of a call, and that the abstract run of a call tells of it. -/
import Derived.Test.YtmmadcccjicdcaaE3
import Derived.Test.YtmmadcccjicdcaaE4
namespace Go.Proofs.Ytmmadcccjicdcaa.E
set_option linter.unusedVariables false
set_option linter.unusedSimpArgs false

/-- A call of function f with these values: it returns, and R holds of what it returns and of the world then. -/
def CallsV (P : Program) (f : Nat) (vals : Array Value) (w : World) (R : Value → World → Prop) : Prop :=
  ((callFunc f vals).run P w = .ok (.enter f vals) w ∧ Calls P f vals w fun e w' => ∃ v, e = .returned v ∧ R v w') ∨
  ∃ v w', (callFunc f vals).run P w = .ok (.value v) w' ∧ R v w'

theorem CallsV.mono {P : Program} {f : Nat} {vals : Array Value} {w : World} {R R' : Value → World → Prop} (h : CallsV P f vals w R) (hr : ∀ v w', R v w' → R' v w') : CallsV P f vals w R' := by
  rcases h with ⟨h1, h2⟩ | ⟨v, w', h1, h2⟩
  · exact .inl ⟨h1, h2.mono fun e w' ⟨v, he, hR⟩ => ⟨v, he, hr v w' hR⟩⟩
  · exact .inr ⟨v, w', h1, hr v w' h2⟩

def resRep (g : G) (w : World) (res : List SV) (v : Value) : Prop := repA g w (resAV res) v

def cellsOb : Option Ob → Prop
  | some (.cells _ _) => True
  | _ => False

/-- What the table's entries mean. -/
def Good (P : Program) (f : Nat) (mode : Bool) {R : Type} (F : CF R) : Prop :=
  ∀ args objs K r, F args objs K = some r → ∃ res objs', K res objs' = some r ∧
    ∀ (g : G) (vals : List Value) (w : World), (∀ b, w.heap.size ≤ b → g.κ b = .none) → (∀ j ob, objs[j]? = some ob → obRep g w j ob) →
      args.length = vals.length → (∀ i sv, args[i]? = some sv → rep g w sv (vals.getD i undef)) → objs.length < 1000 →
      CallsV P f vals.toArray w fun v w' => ∃ g', Ok w g.κ (fun j => cellsOb (objs[j]?)) g.hd g' (fun j => objs'[j]?) w' ∧ (mode = true → ∀ j, j < objs.length → g'.hd j = g.hd j) ∧ resRep g' w' res v

theorem nth_get : ∀ (l : List Nat) (k : Nat), nth l k = l[k]?
  | [], k => by cases k <;> rfl
  | a :: r, 0 => rfl
  | a :: r, k + 1 => by show nth r k = _; rw [nth_get r k]; simp

theorem pos_spec : ∀ (l : List Nat) (j n k : Nat), pos l j n = some k → n ≤ k ∧ l[k - n]? = some j
  | [], _, _, _, h => by cases h
  | a :: r, j, n, k, h => by
    unfold pos at h
    cases ha : Nat.beq a j with
    | true =>
      rw [ha] at h
      cases h
      have := Nat.eq_of_beq_eq_true ha
      subst this
      exact ⟨Nat.le_refl _, by simp⟩
    | false =>
      rw [ha] at h
      obtain ⟨h1, h2⟩ := pos_spec r j (n + 1) k h
      refine ⟨by omega, ?_⟩
      rw [show k - n = (k - (n + 1)) + 1 by omega]
      simpa using h2

theorem pos_none : ∀ (l : List Nat) (j n : Nat), pos l j n = none → j ∉ l
  | [], _, _, _ => by simp
  | a :: r, j, n, h => by
    unfold pos at h
    cases ha : Nat.beq a j with
    | true => rw [ha] at h; cases h
    | false =>
      rw [ha] at h
      have : a ≠ j := fun e => by subst e; simp at ha
      have ih := pos_none r j (n + 1) h
      simp [Ne.symm this, ih]

theorem pos_mem {l : List Nat} {j : Nat} (h : j ∈ l) (n : Nat) : ∃ k, pos l j n = some k := by
  cases hp : pos l j n with
  | none => exact absurd h (pos_none l j n hp)
  | some k => exact ⟨k, rfl⟩

theorem pos_nth : ∀ (l : List Nat) (k j n : Nat), nodupB l = true → l[k]? = some j → pos l j n = some (n + k)
  | [], k, j, n, _, h => by simp at h
  | a :: r, 0, j, n, hd, h => by
    simp only [List.getElem?_cons_zero, Option.some.injEq] at h
    subst h
    simp [pos]
  | a :: r, k + 1, j, n, hd, h => by
    simp only [nodupB, Bool.and_eq_true, Bool.not_eq_true'] at hd
    have hj : r[k]? = some j := by simpa using h
    have hne : a ≠ j := fun e => by
      subst e
      have := (memb_iff a r).2 (List.mem_of_getElem? hj)
      rw [hd.1] at this
      cases this
    have hb : Nat.beq a j = false := by cases hb : Nat.beq a j with | false => rfl | true => exact absurd (Nat.eq_of_beq_eq_true hb) hne
    unfold pos
    rw [hb]
    have := pos_nth r k j (n + 1) hd.2 hj
    simp only [cond_false]
    rw [this]
    congr 1
    omega

theorem renL_spec (f : Nat → Option Nat) : ∀ (l ks : List Nat), renL f l = some ks → ks.length = l.length ∧ ∀ (i j : Nat), l[i]? = some j → ∃ k, ks[i]? = some k ∧ f j = some k
  | [], ks, h => by cases h; simp
  | j :: r, ks, h => by
    unfold renL at h
    split at h
    · rename_i k ks' hk hks
      cases h
      obtain ⟨h1, h2⟩ := renL_spec f r ks' hks
      refine ⟨by simp [h1], fun i j' hi => ?_⟩
      cases i with
      | zero => simp only [List.getElem?_cons_zero, Option.some.injEq] at hi; subst hi; exact ⟨k, rfl, hk⟩
      | succ i => simpa using h2 i j' (by simpa using hi)
    · cases h

/-- Other names: what was told under the one stays told under the other. -/
theorem rep_ren {g g' : G} {w : World} {f : Nat → Option Nat} (hd : ∀ j k, f j = some k → g'.hd k = g.hd j) (sv : SV) (v : Value) (hr : rep g w sv v)
    (hs : ∀ b m, (m = true → shSV sv = true) → g.κ b = .shared m → g'.κ b = .shared m) : rep g' w (sv.ren f) v := by
  cases sv with
  | undef => trivial
  | mark => trivial
  | sh l x => exact shRep_keep (fun b m hm hk => ⟨hs b m hm hk, rfl⟩) hr
  | nil => exact hr
  | int k n => exact hr
  | bool b => exact hr
  | str l => exact hr
  | sl l e E xs =>
    obtain ⟨A, c, h1, h2, h3⟩ := hr
    exact ⟨A, c, h1, h2, fun hne => by obtain ⟨b, o, h4, ⟨m, hm, h5⟩, h6⟩ := h3 hne; exact ⟨b, o, h4, ⟨m, hm, hs b m hm h5⟩, h6⟩⟩
  | slo j =>
    simp only [SV.ren]
    cases hf : f j with
    | none => trivial
    | some k => exact ⟨hr.1.trans (hd j k hf).symm, hr.2⟩
  | ea ow e E xs i =>
    cases ow with
    | none =>
      obtain ⟨h0, h1, b, o, h2, ⟨m, h3⟩, h4⟩ := hr
      exact ⟨h0, h1, b, o, h2, ⟨m, hs b m (fun _ => rfl) h3⟩, h4⟩
    | some j => trivial
  | ref j o =>
    simp only [SV.ren]
    cases hf : f j with
    | none => trivial
    | some k => obtain ⟨b, h1, h2⟩ := hr; exact ⟨b, (hd j k hf).trans h1, h2⟩
  | clo c caps =>
    simp only [SV.ren]
    cases hf : renL f caps with
    | none => trivial
    | some ks =>
      have hv : v = .func (.func c) #[] (caps.map g.hd).toArray := hr
      show v = .func (.func c) #[] (ks.map g'.hd).toArray
      obtain ⟨h1, h2⟩ := renL_spec f caps ks hf
      have : caps.map g.hd = ks.map g'.hd := by
        apply List.ext_getElem?
        intro i
        rw [List.getElem?_map, List.getElem?_map]
        cases hi : caps[i]? with
        | none =>
          have : ks[i]? = none := by rw [List.getElem?_eq_none_iff] at hi ⊢; omega
          rw [this]
          rfl
        | some j =>
          obtain ⟨k, hk, hfk⟩ := h2 i j hi
          rw [hk]
          simp [hd j k hfk]
      rw [hv, this]

theorem anyP_iff (p : Nat → Bool) : ∀ l, anyP p l = true ↔ ∃ a ∈ l, p a = true
  | [] => by simp [anyP]
  | a :: r => by
    have ih := anyP_iff p r
    unfold anyP
    cases h : p a with
    | true => simp [h]
    | false => simp [ih, h]

theorem hP_iff (p : Nat → Bool) (sv : SV) (j : Nat) (h : sv.heapDep j = true) (hp : p j = true) : sv.hP p = true := by
  cases sv <;> simp [SV.heapDep] at h
  rename_i ow _ _ _ _
  cases ow <;> simp at h
  subst h
  exact hp

theorem dP_iff (p : Nat → Bool) (sv : SV) (j : Nat) (h : sv.hdDep j = true) (hp : p j = true) : sv.dP p = true := by
  cases sv <;> simp [SV.hdDep] at h
  · subst h; exact hp
  · rename_i ow _ _ _ _
    cases ow <;> simp at h
    subst h
    exact hp
  · subst h; exact hp
  · exact (anyP_iff p _).2 ⟨j, (memb_iff _ _).1 h, hp⟩

theorem rep_killP {g g' : G} {w w' : World} {ph pd : Nat → Bool} (h : Fr g g' w w' (fun j => ph j = true) (fun j => pd j = true)) (sv : SV) (v : Value) (hr : rep g w sv v) : rep g' w' (sv.killP ph pd) v := by
  unfold SV.killP
  cases hk : (sv.hP ph || sv.dP pd) with
  | true => trivial
  | false =>
    rw [Bool.or_eq_false_iff] at hk
    refine rep_fr h sv v hr (fun j hj hp => ?_) (fun j hj hp => ?_)
    · have := hP_iff ph sv j hj hp; rw [hk.1] at this; cases this
    · have := dP_iff pd sv j hj hp; rw [hk.2] at this; cases this

theorem disj_spec : ∀ (a b : List Nat), disj a b = true → ∀ j ∈ a, j ∉ b
  | [], _, _, j, hj => by cases hj
  | x :: r, b, h, j, hj => by
    simp only [disj, Bool.and_eq_true, Bool.not_eq_true'] at h
    rcases List.mem_cons.1 hj with rfl | hj
    · intro hm
      rw [(memb_iff j b).2 hm] at h
      cases h.1
    · exact disj_spec r b h.2 j hj

theorem numObs_look (f : Nat → Option Nat) (inv : Nat → Nat) : ∀ (obs : List Ob) (k : Nat) (rest : List (Nat × Ob)) (i : Nat),
    (∀ m m', inv m = inv m' → k ≤ m → k ≤ m' → m < k + obs.length → m' < k + obs.length → m = m') →
    look (numObs f inv k obs ++ rest) i = (match (List.range obs.length).find? (fun m => inv (k + m) == i) with | some m => (obs[m]?).map (Ob.map (SV.ren f)) | none => look rest i)
  | [], k, rest, i, _ => by simp [numObs]
  | ob :: r, k, rest, i, hinj => by
    have ih := numObs_look f inv r (k + 1) rest i fun m m' h h1 h2 h3 h4 => hinj m m' h (by omega) (by omega) (by simp; omega) (by simp; omega)
    show look ((inv k, ob.map (SV.ren f)) :: (numObs f inv (k + 1) r ++ rest)) i = _
    rw [look_cons, ih]
    simp only [List.length_cons, List.range_succ_eq_map, List.find?_cons, Nat.add_zero]
    by_cases h0 : inv k = i
    · simp [h0]
    · have : (inv k == i) = false := by simp [h0]
      simp only [h0, if_false, this, List.find?_map]
      have hfun : ((fun m => inv (k + m) == i) ∘ Nat.succ) = fun m => inv (k + 1 + m) == i := by
        funext m
        simp only [Function.comp, Nat.succ_eq_add_one]
        rw [show k + (m + 1) = k + 1 + m by omega]
      rw [hfun]
      cases (List.range r.length).find? (fun m => inv (k + 1 + m) == i) with
      | none => rfl
      | some m => simp

/-- What the callee sees: the objects handed over, by their places in `ids`; what is shared; what is handed over by its contents. -/
def G.inner (g : G) (ids bv : List Nat) : G :=
  ⟨fun b => match g.κ b with | .obj j => (match pos ids j 0 with | some k => .obj k | none => if memb j bv = true then .shared true else .none) | c => c, fun k => match nth ids k with | some j => g.hd j | none => undef⟩

def backCls (ids : List Nat) (d n : Nat) : Cls → Cls
  | .obj k => if k < n then .obj (invOf ids d k) else .none
  | c => c

/-- The callee's name of an object, by the caller's. -/
def fwdOf (ids : List Nat) (d n i : Nat) : Option Nat :=
  match pos ids i 0 with
  | some k => if k < n then some k else none
  | none => if isNew d i = true ∧ ids.length + (i - (100000 + 64 * d)) < n then some (ids.length + (i - (100000 + 64 * d))) else none

/-- Behind the call. -/
def G.outer (g g' : G) (w : World) (ids : List Nat) (d n : Nat) : G :=
  ⟨fun b => if b < w.heap.size then (match g.κ b with | .obj j => (match pos ids j 0 with | some _ => backCls ids d n (g'.κ b) | none => .obj j) | c => c) else backCls ids d n (g'.κ b),
   fun i => match fwdOf ids d n i with | some k => g'.hd k | none => g.hd i⟩

theorem isNew_iff (d k : Nat) : isNew d k = true ↔ 100000 + 64 * d ≤ k ∧ k < 100000 + 64 * d + 64 := by
  unfold isNew
  rw [Bool.and_eq_true]
  constructor
  · rintro ⟨h1, h2⟩; exact ⟨Nat.le_of_ble_eq_true h1, by simpa using h2⟩
  · rintro ⟨h1, h2⟩; exact ⟨Nat.ble_eq_true_of_le h1, by simpa using h2⟩

section
variable {ids : List Nat} {d n : Nat} (hnd : nodupB ids = true) (hnew : anyP (isNew d) ids = false) (hn1 : ids.length ≤ n) (hn2 : n - ids.length ≤ 64)

include hnew in
theorem not_new {j : Nat} (h : j ∈ ids) : isNew d j = false := by
  cases hj : isNew d j with
  | false => rfl
  | true => rw [(anyP_iff _ _).2 ⟨j, h, hj⟩] at hnew; cases hnew

include hnd hnew hn1 hn2 in
theorem fwd_inv {k : Nat} (hk : k < n) : fwdOf ids d n (invOf ids d k) = some k := by
  unfold fwdOf invOf
  rw [nth_get]
  cases hj : ids[k]? with
  | some j =>
    have hp := pos_nth ids k j 0 hnd hj
    rw [Nat.zero_add] at hp
    simp only [hp, hk, if_true]
  | none =>
    have hlen : ids.length ≤ k := List.getElem?_eq_none_iff.1 hj
    have hni : pos ids (newId d (k - ids.length)) 0 = none := by
      cases hp : pos ids (newId d (k - ids.length)) 0 with
      | none => rfl
      | some m =>
        have hm := (pos_spec ids _ 0 m hp).2
        have h1 := not_new hnew (List.mem_of_getElem? hm)
        have h2 : isNew d (newId d (k - ids.length)) = true := (isNew_iff _ _).2 (by unfold newId; omega)
        rw [h2] at h1
        cases h1
    simp only [hni]
    have h2 : isNew d (newId d (k - ids.length)) = true := (isNew_iff _ _).2 (by unfold newId; omega)
    have h3 : ids.length + (newId d (k - ids.length) - (100000 + 64 * d)) = k := by unfold newId; omega
    rw [if_pos ⟨h2, by omega⟩, h3]

theorem inv_fwd {i k : Nat} (h : fwdOf ids d n i = some k) : k < n ∧ invOf ids d k = i := by
  unfold fwdOf at h
  split at h
  · rename_i m hm
    split at h
    · rename_i hlt
      cases h
      refine ⟨hlt, ?_⟩
      have := (pos_spec ids i 0 k hm).2
      unfold invOf
      rw [nth_get]
      rw [Nat.sub_zero] at this
      rw [this]
    · cases h
  · split at h
    · rename_i hm hc
      cases h
      refine ⟨hc.2, ?_⟩
      have := (isNew_iff d i).1 hc.1
      unfold invOf
      rw [nth_get, List.getElem?_eq_none (by omega)]
      simp only [newId]
      omega
    · cases h

include hnd hnew hn1 hn2 in
theorem inv_inj {k m : Nat} (hk : k < n) (hm : m < n) (h : invOf ids d k = invOf ids d m) : k = m := by
  have h1 := fwd_inv hnd hnew hn1 hn2 hk
  rw [h, fwd_inv hnd hnew hn1 hn2 hm] at h1
  cases h1
  rfl

include hnd hnew hn1 hn2 in
theorem numObs_look' (f : Nat → Option Nat) (objs : List Ob) (ho : objs.length = n) (rest : List (Nat × Ob)) (i : Nat) :
    look (numObs f (invOf ids d) 0 objs ++ rest) i = match fwdOf ids d n i with | some k => (objs[k]?).map (Ob.map (SV.ren f)) | none => look rest i := by
  rw [numObs_look f (invOf ids d) objs 0 rest i fun m m' h _ _ h3 h4 => inv_inj hnd hnew hn1 hn2 (by omega) (by omega) h]
  cases hf : fwdOf ids d n i with
  | some k =>
    obtain ⟨hk, hi⟩ := inv_fwd hf
    have : (List.range objs.length).find? (fun m => invOf ids d (0 + m) == i) = some k := by
      rw [List.find?_range_eq_some]
      refine ⟨by simp [hi], by simp [ho, hk], fun m hm => ?_⟩
      simp only [Nat.zero_add, Bool.not_eq_true', beq_eq_false_iff_ne]
      intro he
      have := inv_inj hnd hnew hn1 hn2 (k := m) (m := k) (by omega) hk (he.trans hi.symm)
      omega
    rw [this]
  | none =>
    have : (List.range objs.length).find? (fun m => invOf ids d (0 + m) == i) = none := by
      rw [List.find?_eq_none]
      intro m hm
      simp only [Nat.zero_add, beq_iff_eq]
      intro he
      have hm' : m < n := by rw [← ho]; exact List.mem_range.1 hm
      have := fwd_inv hnd hnew hn1 hn2 hm'
      rw [he, hf] at this
      cases this
    rw [this]

end

theorem isNewN_iff (d m k : Nat) : isNewN d m k = true ↔ 100000 + 64 * d ≤ k ∧ k < 100000 + 64 * d + m := by
  unfold isNewN
  rw [Bool.and_eq_true]
  constructor
  · rintro ⟨h1, h2⟩; exact ⟨Nat.le_of_ble_eq_true h1, by simpa using h2⟩
  · rintro ⟨h1, h2⟩; exact ⟨Nat.ble_eq_true_of_le h1, by simpa using h2⟩

theorem anySh_spec : ∀ (l : List SV), anySh l = false → ∀ sv ∈ l, shSV sv = false
  | [], _, sv, h => by cases h
  | a :: r, h, sv, hm => by
    unfold anySh at h
    cases ha : shSV a with
    | true => rw [ha] at h; cases h
    | false =>
      rw [ha] at h
      rcases List.mem_cons.1 hm with rfl | hm
      · exact ha
      · exact anySh_spec r h sv hm

theorem anyObSh_spec : ∀ (l : List Ob), anyObSh l = false → ∀ ob ∈ l, obSh ob = false
  | [], _, ob, h => by cases h
  | a :: r, h, ob, hm => by
    unfold anyObSh at h
    cases ha : obSh a with
    | true => rw [ha] at h; cases h
    | false =>
      rw [ha] at h
      rcases List.mem_cons.1 hm with rfl | hm
      · exact ha
      · exact anyObSh_spec r h ob hm

theorem getObs_spec (H : List (Nat × Ob)) (ids : List Nat) : ∀ (l : List Nat) (obs : List Ob), getObs H ids l = some obs → obs.length = l.length ∧
    ∀ (k j : Nat), l[k]? = some j → ∃ ob, look H j = some ob ∧ obs[k]? = some (ob.map (SV.ren (fun j => pos ids j 0)))
  | [], obs, h => by cases h; simp
  | j :: r, obs, h => by
    unfold getObs at h
    split at h
    · rename_i ob obs' hj hr
      cases h
      obtain ⟨h1, h2⟩ := getObs_spec H ids r obs' hr
      refine ⟨by simp [h1], fun k j' hk => ?_⟩
      cases k with
      | zero => simp only [List.getElem?_cons_zero, Option.some.injEq] at hk; subst hk; exact ⟨ob, hj, rfl⟩
      | succ k => simpa using h2 k j' (by simpa using hk)
    · cases h

theorem resAV_map (f : SV → SV) (hm : ∀ v, (f v).isMark = v.isMark) (res : List SV) : resAV (res.map f) = (resAV res).map f := by
  cases res with
  | nil => rfl
  | cons a r =>
    cases r with
    | nil => rfl
    | cons b r =>
      show cond (f a).isMark (.agg (f b :: r.map f)) (.tup (f a :: f b :: r.map f)) = AV.map f (cond a.isMark (.agg (b :: r)) (.tup (a :: b :: r)))
      rw [hm a]
      cases a.isMark <;> rfl

theorem ren_mark (f : Nat → Option Nat) (v : SV) : (v.ren f).isMark = v.isMark := by
  cases v <;> simp only [SV.ren] <;> (try rfl)
  · split <;> rfl
  · rename_i ow _ _ _ _
    cases ow <;> rfl
  · split <;> rfl
  · split <;> rfl

theorem repA_res {g g' : G} {w w' : World} {f : SV → SV} (hm : ∀ v, (f v).isMark = v.isMark) (res : List SV) (v : Value) (h : ∀ sv ∈ res, ∀ v, rep g w sv v → rep g' w' (f sv) v) (hr : repA g w (resAV res) v) : repA g' w' (resAV (res.map f)) v := by
  rw [resAV_map f hm]
  have tup : ∀ vs : List SV, (∀ sv ∈ vs, ∀ v, rep g w sv v → rep g' w' (f sv) v) → repA g w (.tup vs) v → repA g' w' (.tup (vs.map f)) v := by
    rintro vs hv ⟨xs, h1, h2, h3⟩
    refine ⟨xs, h1, by simpa using h2, fun i sv hi => ?_⟩
    rw [List.getElem?_map] at hi
    cases hx : vs[i]? with
    | none => rw [hx] at hi; cases hi
    | some u => rw [hx] at hi; cases hi; exact hv u (List.mem_of_getElem? hx) _ (h3 i u hx)
  have agg : ∀ vs : List SV, (∀ sv ∈ vs, ∀ v, rep g w sv v → rep g' w' (f sv) v) → repA g w (.agg vs) v → repA g' w' (.agg (vs.map f)) v := by
    rintro vs hv ⟨xs, h1, h2, h3⟩
    refine ⟨xs, h1, by simpa using h2, fun i sv hi => ?_⟩
    rw [List.getElem?_map] at hi
    cases hx : vs[i]? with
    | none => rw [hx] at hi; cases hi
    | some u => rw [hx] at hi; cases hi; exact hv u (List.mem_of_getElem? hx) _ (h3 i u hx)
  cases res with
  | nil => exact tup [] h hr
  | cons a r =>
    cases r with
    | nil => exact h a (by simp) v hr
    | cons b r =>
      have hr : repA g w (cond a.isMark (.agg (b :: r)) (.tup (a :: b :: r))) v := hr
      show repA g' w' (AV.map f (cond a.isMark (.agg (b :: r)) (.tup (a :: b :: r)))) v
      cases hma : a.isMark with
      | true =>
        rw [hma] at hr
        exact agg (b :: r) (fun sv hsv => h sv (List.mem_cons_of_mem _ hsv)) hr
      | false =>
        rw [hma] at hr
        exact tup (a :: b :: r) h hr

section
variable {nt : Nat} {w0 : World} {κ0 : Nat → Cls} {C0 : Nat → Prop} {hd0 : Nat → Value} {g : G} {s : St} {a : Act} {w : World}

theorem call_core (h : Rel nt w0 κ0 C0 hd0 g s a w) {P : Program} {fid : Nat} (mode : Bool) (ids bv : List Nat) (dst : Option Tmp) (hnd : nodupB ids = true)
    (hnew : anyP (isNew (dOf dst)) ids = false) {objs : List Ob} (hobs : getObs s.H ids ids = some objs) {res : List SV} {objs2 : List Ob}
    (hn1 : ids.length ≤ objs2.length) (hn2 : objs2.length - ids.length ≤ 64) (hsh : (anySh res || anyObSh objs2) = false ∨ bv = []) {vals : Array Value} (hd : ∀ d, dst = some d → d < nt)
    (hcall : CallsV P fid vals w fun v w' => ∃ g', Ok w (g.inner ids bv).κ (fun j => cellsOb (objs[j]?)) (g.inner ids bv).hd g' (fun j => objs2[j]?) w' ∧
      (mode = true → ∀ j, j < objs.length → g'.hd j = (g.inner ids bv).hd j) ∧ resRep g' w' res v) :
    CallsV P fid vals w fun v w' => ∃ g2, Rel nt w0 κ0 C0 hd0 g2 (afterCall mode s dst ids res objs2) (a.put dst v) w' := by
  refine hcall.mono fun v w' ⟨g', hok, hmode, hres⟩ => ?_
  generalize hdd : (dOf dst) = d at hnew
  obtain ⟨hol, hob⟩ := getObs_spec s.H ids ids objs hobs
  have hlt : ∀ {b}, g.κ b ≠ .none → b < w.heap.size := fun hb => h.ok.lt hb
  have hinner_old : ∀ b, b < w.heap.size → (∀ j, (g.inner ids bv).κ b ≠ .obj j) → w'.heap[b]? = w.heap[b]? ∧ g'.κ b = (g.inner ids bv).κ b := hok.old
  have in_ids : ∀ {j}, j ∈ ids → ∃ k, pos ids j 0 = some k ∧ k < ids.length ∧ ids[k]? = some j := fun {j} hj => by
    obtain ⟨k, hk⟩ := pos_mem hj 0
    have := (pos_spec ids j 0 k hk).2
    rw [Nat.sub_zero] at this
    exact ⟨k, hk, (List.getElem?_eq_some_iff.1 this).1, this⟩
  have fwd_ids : ∀ {j k}, pos ids j 0 = some k → fwdOf ids d objs2.length j = some k := fun {j k} hk => by
    have := (pos_spec ids j 0 k hk).2
    rw [Nat.sub_zero] at this
    have hkl := (List.getElem?_eq_some_iff.1 this).1
    unfold fwdOf
    rw [hk]
    simp only
    rw [if_pos (by omega)]
  have fwd_none : ∀ {j}, j ∉ ids → isNewN d (objs2.length - ids.length) j = false → fwdOf ids d objs2.length j = none := fun {j} hj hn => by
    unfold fwdOf
    cases hp : pos ids j 0 with
    | some k => exact absurd (List.mem_of_getElem? (pos_spec ids j 0 k hp).2) hj
    | none =>
      simp only
      rw [if_neg]
      rintro ⟨h1, h2⟩
      have h3 := (isNew_iff d j).1 h1
      have : isNewN d (objs2.length - ids.length) j = true := (isNewN_iff _ _ _).2 (by omega)
      rw [this] at hn
      cases hn
  have fwd_none' : ∀ {j}, fwdOf ids d objs2.length j = none → j ∉ ids ∧ isNewN d (objs2.length - ids.length) j = false := fun {j} hf => by
    refine ⟨fun hj => ?_, ?_⟩
    · obtain ⟨k, hk, _, _⟩ := in_ids hj
      rw [fwd_ids hk] at hf
      cases hf
    · cases hn : isNewN d (objs2.length - ids.length) j with
      | false => rfl
      | true =>
        have h3 := (isNewN_iff _ _ _).1 hn
        unfold fwdOf at hf
        cases hp : pos ids j 0 with
        | some k =>
          have := (pos_spec ids j 0 k hp).2
          rw [Nat.sub_zero] at this
          have hkl := (List.getElem?_eq_some_iff.1 this).1
          rw [hp] at hf
          simp only at hf
          rw [if_pos (by omega)] at hf
          cases hf
        | none =>
          rw [hp] at hf
          simp only at hf
          rw [if_pos ⟨(isNew_iff _ _).2 (by omega), by omega⟩] at hf
          cases hf
  have cells_ids : ∀ {j k}, pos ids j 0 = some k → isArr s.H j = false → cellsOb (objs[k]?) := fun {j k} hk ha => by
    have := (pos_spec ids j 0 k hk).2
    rw [Nat.sub_zero] at this
    obtain ⟨ob, h1, h2⟩ := hob k j this
    rw [h2]
    cases ob with
    | cells ty cs => trivial
    | arr e E xs => unfold isArr at ha; rw [h1] at ha; cases ha
  have inner_hd : ∀ {j k}, pos ids j 0 = some k → (g.inner ids bv).hd k = g.hd j := fun {j k} hk => by
    have := (pos_spec ids j 0 k hk).2
    rw [Nat.sub_zero] at this
    simp only [G.inner, nth_get, this]
  -- memory has turned only where the objects handed over lie
  have hFr : Fr g (g.outer g' w ids d objs2.length) w w' (fun k => (memb k ids || isNewN d (objs2.length - ids.length) k) = true)
      (fun k => (isNewN d (objs2.length - ids.length) k || (memb k ids && isArr s.H k && !mode)) = true) := by
    refine ⟨fun b m hb => ?_, fun b j hb hj => ?_, fun j hj => ?_⟩
    · have hl := hlt (b := b) (by rw [hb]; simp)
      have hi : (g.inner ids bv).κ b = .shared m := by simp only [G.inner, hb]
      obtain ⟨h1, h2⟩ := hinner_old b hl (by intro j; rw [hi]; simp)
      exact ⟨by simp only [G.outer, hl, if_true, hb], h1⟩
    · have hl := hlt (b := b) (by rw [hb]; simp)
      simp only [Bool.or_eq_true, not_or, Bool.not_eq_true] at hj
      have hni : j ∉ ids := fun hm => by rw [(memb_iff j ids).2 hm] at hj; cases hj.1
      have hp : pos ids j 0 = none := by
        cases hp : pos ids j 0 with
        | none => rfl
        | some k => exact absurd (List.mem_of_getElem? (pos_spec ids j 0 k hp).2) hni
      have hi : ∀ m, (g.inner ids bv).κ b ≠ .obj m := by
        intro m
        simp only [G.inner, hb, hp]
        split <;> simp
      obtain ⟨h1, h2⟩ := hinner_old b hl hi
      exact ⟨by simp only [G.outer, hl, if_true, hb, hp], h1⟩
    · simp only [Bool.or_eq_true, not_or, Bool.not_eq_true] at hj
      simp only [G.outer]
      cases hf : fwdOf ids d objs2.length j with
      | none => rfl
      | some k =>
        simp only
        cases hp : pos ids j 0 with
        | none =>
          have hni := pos_none ids j 0 hp
          rw [fwd_none hni hj.1] at hf
          cases hf
        | some k' =>
          rw [fwd_ids hp] at hf
          cases hf
          have hm : memb j ids = true := (memb_iff j ids).2 (List.mem_of_getElem? (pos_spec ids j 0 k hp).2)
          have h2 := hj.2
          rw [hm, Bool.true_and] at h2
          have hkl : k < objs.length := by
            have := (pos_spec ids j 0 k hp).2
            rw [Nat.sub_zero] at this
            rw [hol]
            exact (List.getElem?_eq_some_iff.1 this).1
          cases hmo : mode with
          | true => rw [hmode hmo k hkl]; exact inner_hd hp
          | false =>
            rw [hmo] at h2
            simp only [Bool.not_false, Bool.and_true] at h2
            rw [(hok.c0 k (cells_ids hp h2)).1]
            exact inner_hd hp
  have hmap := rep_killP hFr
  -- the callee's values under the caller's names
  have hshare : ∀ b m, (m = true → (anySh res || anyObSh objs2) = true) → g'.κ b = .shared m → (g.outer g' w ids d objs2.length).κ b = .shared m := by
    intro b m hs hb
    simp only [G.outer]
    split
    · rename_i hl
      cases hk : g.κ b with
      | none =>
        have hi : (g.inner ids bv).κ b = .none := by simp only [G.inner, hk]
        have := (hinner_old b hl (by intro j; rw [hi]; simp)).2
        rw [hi, hb] at this
        cases this
      | shared m' =>
        have hi : (g.inner ids bv).κ b = .shared m' := by simp only [G.inner, hk]
        have := (hinner_old b hl (by intro j; rw [hi]; simp)).2
        rw [hi, hb] at this
        exact this.symm
      | obj j =>
        simp only
        cases hp : pos ids j 0 with
        | some k => simp only [hb]; rfl
        | none =>
          have hi : (g.inner ids bv).κ b = if memb j bv = true then .shared true else .none := by simp only [G.inner, hk, hp]
          have := (hinner_old b hl (by intro j; rw [hi]; split <;> simp)).2
          rw [hi, hb] at this
          split at this
          · rename_i hmb
            cases this
            rcases hsh with e | e
            · rw [e] at hs; cases hs rfl
            · rw [e] at hmb; cases hmb
          · cases this
    · rw [hb]; rfl
  have hren : ∀ sv v, (shSV sv = true → (anySh res || anyObSh objs2) = true) → rep g' w' sv v →
      rep (g.outer g' w ids d objs2.length) w' (sv.ren fun k => cond (Nat.blt k objs2.length) (some (invOf ids d k)) none) v := by
    intro sv v hs hr
    refine rep_ren (fun j k hj => ?_) sv v hr (fun b m h1 hb => hshare b m (fun e => hs (h1 e)) hb)
    cases hlt' : Nat.blt j objs2.length with
    | false => rw [hlt'] at hj; cases hj
    | true =>
      rw [hlt'] at hj
      cases hj
      simp only [G.outer, fwd_inv hnd hnew hn1 hn2 (show j < objs2.length by simpa using hlt')]
  have hkobj : ∀ {b k}, g'.κ b = .obj k → k < objs2.length → (g.outer g' w ids d objs2.length).κ b = .obj (invOf ids d k) := by
    intro b k hb hk
    simp only [G.outer]
    split
    · rename_i hl
      cases hgk : g.κ b with
      | none =>
        have hi : (g.inner ids bv).κ b = .none := by simp only [G.inner, hgk]
        have := (hinner_old b hl (by intro j; rw [hi]; simp)).2
        rw [hi, hb] at this
        cases this
      | shared m =>
        have hi : (g.inner ids bv).κ b = .shared m := by simp only [G.inner, hgk]
        have := (hinner_old b hl (by intro j; rw [hi]; simp)).2
        rw [hi, hb] at this
        cases this
      | obj j =>
        simp only
        cases hp : pos ids j 0 with
        | some m => simp only [hb, backCls, hk, if_true]
        | none =>
          have hi : ∀ m, (g.inner ids bv).κ b ≠ .obj m := by
            intro m
            simp only [G.inner, hgk, hp]
            split <;> simp
          have := (hinner_old b hl hi).2
          rw [hb] at this
          exact absurd this.symm (hi k)
    · simp only [hb, backCls, hk, if_true]
  have hlook : ∀ i, look (numObs (fun k => cond (Nat.blt k objs2.length) (some (invOf ids d k)) none) (invOf ids d) 0 objs2 ++ mapH (SV.killP (fun k => memb k ids || isNewN d (objs2.length - ids.length) k) (fun k => isNewN d (objs2.length - ids.length) k || (memb k ids && isArr s.H k && !mode))) s.H) i =
      match fwdOf ids d objs2.length i with
      | some k => (objs2[k]?).map (Ob.map (SV.ren fun k => cond (Nat.blt k objs2.length) (some (invOf ids d k)) none))
      | none => (look s.H i).map (Ob.map (SV.killP (fun k => memb k ids || isNewN d (objs2.length - ids.length) k) (fun k => isNewN d (objs2.length - ids.length) k || (memb k ids && isArr s.H k && !mode)))) := by
    intro i
    rw [numObs_look' hnd hnew hn1 hn2 _ objs2 rfl, mapH_look]
  have hrel : Rel nt w0 κ0 C0 hd0 (g.outer g' w ids d objs2.length)
      ⟨mapSl (SV.killP (fun k => memb k ids || isNewN d (objs2.length - ids.length) k) (fun k => isNewN d (objs2.length - ids.length) k || (memb k ids && isArr s.H k && !mode))) s.sl,
       numObs (fun k => cond (Nat.blt k objs2.length) (some (invOf ids d k)) none) (invOf ids d) 0 objs2 ++ mapH (SV.killP (fun k => memb k ids || isNewN d (objs2.length - ids.length) k) (fun k => isNewN d (objs2.length - ids.length) k || (memb k ids && isArr s.H k && !mode))) s.H⟩ a w' := by
    refine ⟨⟨hok.os.trans h.ok.os, hok.tape.trans h.ok.tape, hok.output.trans h.ok.output, Nat.le_trans h.ok.size hok.size, fun b hb hn => ?_, fun b hb => ?_, fun i ob hi => ?_, fun i hi => ?_⟩, fun t => ?_, h.nt, h.df⟩
    · obtain ⟨h1, h2⟩ := h.ok.old b hb hn
      have hl : b < w.heap.size := Nat.lt_of_lt_of_le hb h.ok.size
      have hgk : ∀ j, g.κ b ≠ .obj j := by rw [h2]; exact hn
      have hi : (g.inner ids bv).κ b = g.κ b := by
        cases hk : g.κ b with
        | obj j => exact absurd hk (hgk j)
        | none => simp only [G.inner, hk]
        | shared m => simp only [G.inner, hk]
      obtain ⟨h3, h4⟩ := hinner_old b hl (by rw [hi]; exact hgk)
      refine ⟨h3.trans h1, ?_⟩
      rw [← h2]
      cases hk : g.κ b with
      | obj j => exact absurd hk (hgk j)
      | none => simp only [G.outer, hl, if_true, hk]
      | shared m => simp only [G.outer, hl, if_true, hk]
    · have : ¬ b < w.heap.size := by have := hok.size; omega
      simp only [G.outer, this, if_false, hok.fresh b hb]
      rfl
    · have hi : look _ i = some ob := hi
      rw [hlook] at hi
      cases hf : fwdOf ids d objs2.length i with
      | some k =>
        rw [hf] at hi
        simp only at hi
        obtain ⟨hk, hinv⟩ := inv_fwd hf
        cases ho : objs2[k]? with
        | none => rw [ho] at hi; cases hi
        | some ob0 =>
          rw [ho] at hi
          cases hi
          have hr := hok.obs k ob0 ho
          have hhd : (g.outer g' w ids d objs2.length).hd i = g'.hd k := by simp only [G.outer, hf]
          cases ob0 with
          | cells ty cs =>
            obtain ⟨b, vs, h1, h2, h3, h4, h5⟩ := hr
            refine ⟨b, vs, by rw [hhd]; exact h1, by rw [hkobj h2 hk, hinv], h3, by simpa using h4, fun m sv hm => ?_⟩
            rw [List.getElem?_map] at hm
            cases hx : cs[m]? with
            | none => rw [hx] at hm; cases hm
            | some u =>
              rw [hx] at hm
              cases hm
              refine hren u _ (fun hsv => ?_) (h5 m u hx)
              cases han : anyObSh objs2 with
              | true => simp
              | false =>
                have h6 := anyObSh_spec _ han _ (List.mem_of_getElem? ho)
                have := anySh_spec cs h6 u (List.mem_of_getElem? hx)
                rw [this] at hsv
                cases hsv
          | arr e E xs =>
            obtain ⟨h1, h2⟩ := hr
            exact ⟨by rw [hhd]; exact h1, fun b hb => by rw [hhd] at hb; rw [hkobj (h2 b hb) hk, hinv]⟩
      | none =>
        rw [hf] at hi
        simp only at hi
        obtain ⟨hni, hnn⟩ := fwd_none' hf
        have hm : memb i ids = false := by
          cases hm : memb i ids with
          | false => rfl
          | true => exact absurd ((memb_iff i ids).1 hm) hni
        cases hx : look s.H i with
        | none => rw [hx] at hi; cases hi
        | some o =>
          rw [hx] at hi
          cases hi
          exact ob_map hFr hmap i o (h.ok.obs i o hx) (by simp [hm, hnn]) (by simp [hm, hnn])
    · obtain ⟨h1, h2, h3⟩ := h.ok.c0 i hi
      have hnn : isNewN d (objs2.length - ids.length) i = false := by
        cases hn : isNewN d (objs2.length - ids.length) i with
        | false => rfl
        | true => have := (isNewN_iff _ _ _).1 hn; omega
      have hna : isArr s.H i = false := by
        unfold isArr
        split
        · rename_i e E xs hx; exact absurd hx (h3 e E xs)
        · rfl
      refine ⟨(hFr.hd i (by simp [hnn, hna])).trans h1, h2, fun e E xs hx => ?_⟩
      have hx : look _ i = _ := hx
      rw [hlook] at hx
      cases hf : fwdOf ids d objs2.length i with
      | some k =>
        rw [hf] at hx
        simp only at hx
        cases hp : pos ids i 0 with
        | none => rw [fwd_none (pos_none ids i 0 hp) hnn] at hf; cases hf
        | some k' =>
          rw [fwd_ids hp] at hf
          cases hf
          have hc := (hok.c0 k (cells_ids hp hna)).2.2
          cases ho : objs2[k]? with
          | none => rw [ho] at hx; cases hx
          | some ob0 =>
            rw [ho] at hx
            cases ob0 with
            | cells _ _ => cases hx
            | arr e' E' xs' => exact hc _ _ _ ho
      | none =>
        rw [hf] at hx
        simp only at hx
        cases hy : look s.H i with
        | none => rw [hy] at hx; cases hx
        | some o =>
          rw [hy] at hx
          cases o with
          | cells _ _ => cases hx
          | arr e' E' xs' => exact h3 _ _ _ hy
    · have := get_map (SV.killP (fun k => memb k ids || isNewN d (objs2.length - ids.length) k) (fun k => isNewN d (objs2.length - ids.length) k || (memb k ids && isArr s.H k && !mode))) rfl s t
      have h4 := repA_map hmap _ _ (h.slots t)
      rw [← this] at h4
      exact h4
  have hres' : repA (g.outer g' w ids d objs2.length) w' (resAV (res.map (SV.ren fun k => cond (Nat.blt k objs2.length) (some (invOf ids d k)) none))) v :=
    repA_res (ren_mark _) res v (fun sv hm v hr => hren sv v (fun hsv => by
      cases han : anySh res with
      | true => simp
      | false => have := anySh_spec res han sv hm; rw [this] at hsv; cases hsv) hr) hres
  refine ⟨g.outer g' w ids d objs2.length, ?_⟩
  cases dst with
  | none => subst hdd; exact hrel
  | some d' => subst hdd; exact hrel.put d' (hd d' rfl) _ _ hres'

end

end Go.Proofs.Ytmmadcccjicdcaa.E
