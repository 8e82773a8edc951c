/- What it means that an abstract state tells of the machine's state, and that it stays so while memory turns elsewhere. -/
import Derived.Test.YtmmadcccjicdcaaE0
import Derived.Laws.OwnMore
namespace Go.Proofs.Ytmmadcccjicdcaa.E
set_option linter.unusedVariables false
set_option linter.unusedSimpArgs false

inductive Cls where
  | none
  | shared (l : Bool)
  | obj (j : Nat)

structure G where
  κ : Nat → Cls
  hd : Nat → Value

/-- A list of whole numbers in shared memory. -/
def rowRep (g : G) (w : World) (l : Bool) (xs : List Int) (v : Value) : Prop :=
  ∃ A c, v = .slice A xs.length c ∧ xs.length ≤ c ∧ (xs ≠ [] → ∃ b o, A = some ⟨b, o, none⟩ ∧ (∃ m : Bool, (m = true → l = true) ∧ g.κ b = .shared m) ∧ ∀ i u, xs[i]? = some u → w.cell? ⟨b, o + i, none⟩ = some (.int .i64 u))

def shRep (g : G) (w : World) (l : Bool) : Sh → Value → Prop
  | .tab k ns, v => ∃ b c, v = .slice (some ⟨b, 0, none⟩) (ns.length / k) c ∧ ns.length / k ≤ c ∧ (∃ m : Bool, (m = true → l = true) ∧ g.κ b = .shared m) ∧ ∀ i u, ns[i]? = some u → w.cell? ⟨b, i, none⟩ = some (.int .i64 u)
  | .eat k ns i, v => 0 ≤ i ∧ i < ((ns.length / k : Nat) : Int) ∧ ∃ b, v = .pointer (some ⟨b, i.toNat * k, none⟩) ∧ (∃ m : Bool, (m = true → l = true) ∧ g.κ b = .shared m) ∧ ∀ i u, ns[i]? = some u → w.cell? ⟨b, i, none⟩ = some (.int .i64 u)
  | .rows e xss, v => ∃ A c, v = .slice A xss.length c ∧ xss.length ≤ c ∧ (xss = [] → c = 0) ∧ (xss ≠ [] → ∃ b o, A = some ⟨b, o, none⟩ ∧ (∃ m : Bool, (m = true → l = true) ∧ g.κ b = .shared m) ∧ ∀ i xs, xss[i]? = some xs → ∃ u, w.cell? ⟨b, o + i, none⟩ = some u ∧ rowRep g w l xs u)
  | .ear e xss i, v => 0 ≤ i ∧ i < (xss.length : Int) ∧ ∃ b o, v = .pointer (some ⟨b, o, none⟩) ∧ (∃ m : Bool, (m = true → l = true) ∧ g.κ b = .shared m) ∧ ∃ u, w.cell? ⟨b, o, none⟩ = some u ∧ rowRep g w l (xss.getD i.toNat []) u

theorem rowRep_keep {g g' : G} {w w' : World} {l : Bool} (h : ∀ b m, (m = true → l = true) → g.κ b = .shared m → g'.κ b = .shared m ∧ w'.heap[b]? = w.heap[b]?) {xs : List Int} {v : Value} (hr : rowRep g w l xs v) : rowRep g' w' l xs v := by
  obtain ⟨A, c, h1, h2, h3⟩ := hr
  refine ⟨A, c, h1, h2, fun hne => ?_⟩
  obtain ⟨b, o, hA, ⟨m, hm, hk⟩, hc⟩ := h3 hne
  obtain ⟨hk', hb⟩ := h b m hm hk
  exact ⟨b, o, hA, ⟨m, hm, hk'⟩, fun i u hi => (World.cell?_of_block (a := ⟨b, o + i, none⟩) hb).trans (hc i u hi)⟩

theorem shRep_keep {g g' : G} {w w' : World} {l : Bool} (h : ∀ b m, (m = true → l = true) → g.κ b = .shared m → g'.κ b = .shared m ∧ w'.heap[b]? = w.heap[b]?) : ∀ {x : Sh} {v : Value}, shRep g w l x v → shRep g' w' l x v
  | .tab k ns, v, ⟨b, c, h1, h2, ⟨m, hm, hk⟩, h4⟩ => by
    obtain ⟨hk', hb⟩ := h b m hm hk
    exact ⟨b, c, h1, h2, ⟨m, hm, hk'⟩, fun i u hi => (World.cell?_of_block (a := ⟨b, i, none⟩) hb).trans (h4 i u hi)⟩
  | .eat k ns i, v, ⟨h0, h1, b, h2, ⟨m, hm, hk⟩, h4⟩ => by
    obtain ⟨hk', hb⟩ := h b m hm hk
    exact ⟨h0, h1, b, h2, ⟨m, hm, hk'⟩, fun i u hi => (World.cell?_of_block (a := ⟨b, i, none⟩) hb).trans (h4 i u hi)⟩
  | .rows e xss, v, ⟨A, c, h1, h2, h0, h3⟩ => by
    refine ⟨A, c, h1, h2, h0, fun hne => ?_⟩
    obtain ⟨b, o, hA, ⟨m, hm, hk⟩, hc⟩ := h3 hne
    obtain ⟨hk', hb⟩ := h b m hm hk
    refine ⟨b, o, hA, ⟨m, hm, hk'⟩, fun i xs hi => ?_⟩
    obtain ⟨u, hu, hr⟩ := hc i xs hi
    exact ⟨u, (World.cell?_of_block (a := ⟨b, o + i, none⟩) hb).trans hu, rowRep_keep h hr⟩
  | .ear e xss i, v, ⟨h0, h1, b, o, h2, ⟨m, hm, hk⟩, u, hu, hr⟩ => by
    obtain ⟨hk', hb⟩ := h b m hm hk
    exact ⟨h0, h1, b, o, h2, ⟨m, hm, hk'⟩, u, (World.cell?_of_block (a := ⟨b, o, none⟩) hb).trans hu, rowRep_keep h hr⟩

theorem rowRep_lift {g : G} {w : World} {l l' : Bool} (h : l' = true → l = true) {xs : List Int} {v : Value} (hr : rowRep g w l' xs v) : rowRep g w l xs v := by
  obtain ⟨A, c, h1, h2, h3⟩ := hr
  refine ⟨A, c, h1, h2, fun hne => ?_⟩
  obtain ⟨b, o, hA, ⟨m, hm, hk⟩, hc⟩ := h3 hne
  exact ⟨b, o, hA, ⟨m, fun e => h (hm e), hk⟩, hc⟩

theorem shRep_lift {g : G} {w : World} {l l' : Bool} (h : l' = true → l = true) : ∀ {x : Sh} {v : Value}, shRep g w l' x v → shRep g w l x v
  | .tab k ns, v, ⟨b, c, h1, h2, ⟨m, hm, hk⟩, h4⟩ => ⟨b, c, h1, h2, ⟨m, fun e => h (hm e), hk⟩, h4⟩
  | .eat k ns i, v, ⟨h0, h1, b, h2, ⟨m, hm, hk⟩, h4⟩ => ⟨h0, h1, b, h2, ⟨m, fun e => h (hm e), hk⟩, h4⟩
  | .rows e xss, v, ⟨A, c, h1, h2, h0, h3⟩ => by
    refine ⟨A, c, h1, h2, h0, fun hne => ?_⟩
    obtain ⟨b, o, hA, ⟨m, hm, hk⟩, hc⟩ := h3 hne
    refine ⟨b, o, hA, ⟨m, fun e => h (hm e), hk⟩, fun i xs hi => ?_⟩
    obtain ⟨u, hu, hr⟩ := hc i xs hi
    exact ⟨u, hu, rowRep_lift h hr⟩
  | .ear e xss i, v, ⟨h0, h1, b, o, h2, ⟨m, hm, hk⟩, u, hu, hr⟩ => ⟨h0, h1, b, o, h2, ⟨m, fun e => h (hm e), hk⟩, u, hu, rowRep_lift h hr⟩

def rep (g : G) (w : World) : SV → Value → Prop
  | .undef, _ => True
  | .mark, _ => True
  | .sh l x, v => shRep g w l x v
  | .nil, v => v = .slice none 0 0
  | .int k n, v => v = .int k n
  | .bool b, v => v = .bool b
  | .str s, v => v = .string ⟨List.toArray s⟩
  | .sl l e E xs, v => ∃ A c, v = .slice A xs.length c ∧ xs.length ≤ c ∧ (xs ≠ [] → ∃ b o, A = some ⟨b, o, none⟩ ∧ (∃ m : Bool, (m = true → l = true) ∧ g.κ b = .shared m) ∧ ∀ i u, xs[i]? = some u → w.cell? ⟨b, o + i, none⟩ = some (E.enc u))
  | .slo j, v => v = g.hd j ∧ v.oneCell' = true
  | .ea none e E xs i, v => 0 ≤ i ∧ i < xs.length ∧ ∃ b o, v = .pointer (some ⟨b, o, none⟩) ∧ (∃ m, g.κ b = .shared m) ∧ w.cell? ⟨b, o, none⟩ = some (E.enc (xs.getD i.toNat E.zero))
  | .ea (some j) e E xs i, v => 0 ≤ i ∧ i < xs.length ∧ ∃ b, (g.hd j).ownBlock = some b ∧ g.κ b = .obj j ∧ v = .pointer (some ⟨b, i.toNat, none⟩) ∧ w.ownsRow 0 e 1 (g.hd j) xs.length (xs.map E.enc)
  | .ref j o, v => ∃ b, g.hd j = .pointer (some ⟨b, 0, none⟩) ∧ v = .pointer (some ⟨b, o, none⟩)
  | .clo f caps, v => v = .func (.func f) #[] (caps.map g.hd).toArray

def repA (g : G) (w : World) : AV → Value → Prop
  | .s sv, v => rep g w sv v
  | .tup vs, v => ∃ xs : Array Value, v = .tuple xs ∧ xs.size = vs.length ∧ ∀ i sv, vs[i]? = some sv → rep g w sv (xs.getD i undef)
  | .agg vs, v => ∃ xs : Array Value, v = .agg xs ∧ xs.size = vs.length ∧ ∀ i sv, vs[i]? = some sv → rep g w sv (xs.getD i undef)

def obRep (g : G) (w : World) (j : Nat) : Ob → Prop
  | .cells ty cs => ∃ b vs, g.hd j = .pointer (some ⟨b, 0, none⟩) ∧ g.κ b = .obj j ∧ w.heap[b]? = some (.cells vs ty (0, 0)) ∧ vs.size = cs.length ∧ ∀ i sv, cs[i]? = some sv → rep g w sv (vs.getD i undef)
  | .arr e E xs => w.ownsRow 0 e 1 (g.hd j) xs.length (xs.map E.enc) ∧ ∀ b, (g.hd j).ownBlock = some b → g.κ b = .obj j

/-- Memory has turned, but not where it matters: objects in `Xh` may have other contents, those in `Xd` another place. -/
structure Fr (g g' : G) (w w' : World) (Xh Xd : Nat → Prop) : Prop where
  shared : ∀ b m, g.κ b = .shared m → g'.κ b = .shared m ∧ w'.heap[b]? = w.heap[b]?
  obj : ∀ b j, g.κ b = .obj j → ¬ Xh j → g'.κ b = .obj j ∧ w'.heap[b]? = w.heap[b]?
  hd : ∀ j, ¬ Xd j → g'.hd j = g.hd j

theorem memb_iff (j : Nat) : ∀ l, memb j l = true ↔ j ∈ l
  | [] => by simp [memb]
  | a :: r => by
    have ih := memb_iff j r
    unfold memb
    cases h : Nat.beq a j with
    | true => have := Nat.eq_of_beq_eq_true h; simp [this]
    | false =>
      have : a ≠ j := fun e => by subst e; simp at h
      simp [ih, Ne.symm this]

theorem beq_iff (a b : Nat) : Nat.beq a b = true ↔ a = b := by simp

theorem ownsRow_block {w w' : World} {base : Nat} {e : TypeId} {size n : Nat} {v : Value} {xs : List Value} (h : w.ownsRow base e size v n xs)
    (hb : ∀ b, v.ownBlock = some b → w'.heap[b]? = w.heap[b]?) : w'.ownsRow base e size v n xs := by
  refine ⟨h.1, ?_⟩
  rcases h.2 with hn | ⟨g, cap, cur, rfl, hbg, hg, rest⟩
  · exact .inl hn
  · exact .inr ⟨g, cap, cur, rfl, hbg, by rw [hb g rfl]; exact hg, rest⟩

theorem rep_fr {g g' : G} {w w' : World} {Xh Xd : Nat → Prop} (h : Fr g g' w w' Xh Xd) (sv : SV) (v : Value) (hr : rep g w sv v)
    (hh : ∀ j, sv.heapDep j = true → ¬ Xh j) (hd : ∀ j, sv.hdDep j = true → ¬ Xd j) : rep g' w' sv v := by
  cases sv with
  | undef => trivial
  | mark => trivial
  | sh l x => exact shRep_keep (fun b m _ hk => h.shared b m hk) hr
  | nil => exact hr
  | int k n => exact hr
  | bool b => exact hr
  | str s => exact hr
  | sl l e E xs =>
    obtain ⟨A, c, h1, h2, h3⟩ := hr
    refine ⟨A, c, h1, h2, fun hne => ?_⟩
    obtain ⟨b, o, hA, ⟨m, hm, hk⟩, hc⟩ := h3 hne
    obtain ⟨hk', hb⟩ := h.shared b m hk
    exact ⟨b, o, hA, ⟨m, hm, hk'⟩, fun i u hi => (World.cell?_of_block (a := ⟨b, o + i, none⟩) hb).trans (hc i u hi)⟩
  | slo j =>
    have : v = g.hd j ∧ v.oneCell' = true := hr
    show v = g'.hd j ∧ v.oneCell' = true
    rw [h.hd j (hd j (by simp [SV.hdDep]))]
    exact this
  | ea ow e E xs i =>
    cases ow with
    | none =>
      obtain ⟨h0, h1, b, o, h2, ⟨m, h3⟩, h4⟩ := hr
      obtain ⟨hk', hb⟩ := h.shared b m h3
      exact ⟨h0, h1, b, o, h2, ⟨m, hk'⟩, (World.cell?_of_block (a := ⟨b, o, none⟩) hb).trans h4⟩
    | some j =>
      obtain ⟨h0, h1, b, h2, h3, h4, h5⟩ := hr
      have e := h.hd j (hd j (by simp [SV.hdDep]))
      obtain ⟨hk', hb⟩ := h.obj b j h3 (hh j (by simp [SV.heapDep]))
      refine ⟨h0, h1, b, by rw [e]; exact h2, hk', h4, ?_⟩
      rw [e]
      refine ownsRow_block h5 fun b' hb' => ?_
      rw [h2] at hb'
      cases hb'
      exact hb
  | ref j o =>
    obtain ⟨b, h1, h2⟩ := hr
    exact ⟨b, by rw [h.hd j (hd j (by simp [SV.hdDep]))]; exact h1, h2⟩
  | clo f caps =>
    have hv : v = .func (.func f) #[] (caps.map g.hd).toArray := hr
    show v = .func (.func f) #[] (caps.map g'.hd).toArray
    rw [hv, List.map_congr_left (f := g.hd) (g := g'.hd) fun j hj => (h.hd j (hd j (by simp [SV.hdDep, memb_iff, hj]))).symm]

theorem ob_fr {g g' : G} {w w' : World} {Xh Xd : Nat → Prop} (h : Fr g g' w w' Xh Xd) (j : Nat) (ob : Ob) (hr : obRep g w j ob) (hj : ¬ Xh j) (hj' : ¬ Xd j)
    (hc : ∀ ty cs, ob = .cells ty cs → ∀ sv ∈ cs, (∀ i, sv.heapDep i = true → ¬ Xh i) ∧ (∀ i, sv.hdDep i = true → ¬ Xd i)) : obRep g' w' j ob := by
  cases ob with
  | cells ty cs =>
    obtain ⟨b, vs, h1, h2, h3, h4, h5⟩ := hr
    obtain ⟨hk, hb⟩ := h.obj b j h2 hj
    refine ⟨b, vs, by rw [h.hd j hj']; exact h1, hk, hb.trans h3, h4, fun i sv hi => ?_⟩
    have hm := hc ty cs rfl sv (List.mem_of_getElem? hi)
    exact rep_fr h sv _ (h5 i sv hi) hm.1 hm.2
  | arr e E xs =>
    obtain ⟨h1, h2⟩ := hr
    have e := h.hd j hj'
    refine ⟨?_, fun b hb => ?_⟩
    · rw [e]
      exact ownsRow_block h1 fun b hb => (h.obj b j (h2 b hb) hj).2
    · rw [e] at hb
      exact (h.obj b j (h2 b hb) hj).1

/-- The world of a call so far: what was there when it began (world w0, classes κ0) and is none of its objects is as it was. -/
structure Ok (w0 : World) (κ0 : Nat → Cls) (C0 : Nat → Prop) (hd0 : Nat → Value) (g : G) (H : Nat → Option Ob) (w : World) : Prop where
  os : w.os = w0.os
  tape : w.tape = w0.tape
  output : w.output = w0.output
  size : w0.heap.size ≤ w.heap.size
  old : ∀ b, b < w0.heap.size → (∀ j, κ0 b ≠ .obj j) → w.heap[b]? = w0.heap[b]? ∧ g.κ b = κ0 b
  fresh : ∀ b, w.heap.size ≤ b → g.κ b = .none
  obs : ∀ j ob, H j = some ob → obRep g w j ob
  c0 : ∀ j, C0 j → g.hd j = hd0 j ∧ j < 1000 ∧ ∀ e E xs, H j ≠ some (.arr e E xs)

structure Rel (nt : Nat) (w0 : World) (κ0 : Nat → Cls) (C0 : Nat → Prop) (hd0 : Nat → Value) (g : G) (s : St) (a : Act) (w : World) : Prop where
  ok : Ok w0 κ0 C0 hd0 g (look s.H) w
  slots : ∀ t, repA g w (s.get t) (a.tmps.getD t undef)
  nt : a.tmps.size = nt
  df : a.defers = []

theorem getD_put (a : Act) (d t : Nat) (v : Value) (hd : d < a.tmps.size) : (a.put (some d) v).tmps.getD t undef = if d = t then v else a.tmps.getD t undef := by
  simp only [Act.put, Array.getD_eq_getD_getElem?, Array.getElem?_setIfInBounds]
  by_cases h : d = t
  · subst h; simp [hd]
  · simp [h]

theorem look_cons {α : Type} (a : Nat) (b : α) (r : List (Nat × α)) (k : Nat) : look ((a, b) :: r) k = if a = k then some b else look r k := by
  show cond (Nat.beq a k) (some b) (look r k) = _
  cases h : Nat.beq a k with
  | true => have := Nat.eq_of_beq_eq_true h; simp [this]
  | false => have : a ≠ k := fun e => by subst e; simp at h
             simp [this]

theorem get_put (s : St) (d t : Nat) (v : AV) : (s.put d v).get t = if d = t then v else s.get t := by
  unfold St.get St.put
  rw [look_cons]
  by_cases h : d = t <;> simp [h]

section
variable {nt : Nat} {w0 : World} {κ0 : Nat → Cls} {C0 : Nat → Prop} {hd0 : Nat → Value} {g g' : G} {s : St} {a : Act} {w w' : World}

theorem Rel.put (h : Rel nt w0 κ0 C0 hd0 g s a w) (d : Nat) (hd : d < nt) (av : AV) (v : Value) (hv : repA g w av v) :
    Rel nt w0 κ0 C0 hd0 g (s.put d av) (a.put (some d) v) w := by
  refine ⟨h.ok, fun t => ?_, by simp [Act.put, h.nt], h.df⟩
  rw [getD_put a d t v (by rw [h.nt]; exact hd), get_put]
  split
  · exact hv
  · exact h.slots t

/-- The same, where the value goes nowhere. -/
theorem Rel.put_none (h : Rel nt w0 κ0 C0 hd0 g s a w) (v : Value) : Rel nt w0 κ0 C0 hd0 g s (a.put none v) w := h

end

/- Mapping a state -/
theorem mapSl_look (f : SV → SV) (t : Nat) : ∀ l, look (mapSl f l) t = (look l t).map (AV.map f)
  | [] => rfl
  | (a, b) :: r => by
    show look ((a, b.map f) :: mapSl f r) t = _
    rw [look_cons, look_cons, mapSl_look f t r]
    split <;> rfl

theorem mapH_look (f : SV → SV) (t : Nat) : ∀ l, look (mapH f l) t = (look l t).map (Ob.map f)
  | [] => rfl
  | (a, b) :: r => by
    show look ((a, b.map f) :: mapH f r) t = _
    rw [look_cons, look_cons, mapH_look f t r]
    split <;> rfl

theorem get_map (f : SV → SV) (hf : f .undef = .undef) (s : St) (t : Nat) : (s.map f).get t = (s.get t).map f := by
  unfold St.get St.map
  simp only [mapSl_look]
  cases look s.sl t with
  | none => simp [AV.map, hf]
  | some v => rfl

theorem repA_map {g g' : G} {w w' : World} {f : SV → SV} (h : ∀ sv v, rep g w sv v → rep g' w' (f sv) v) (av : AV) (v : Value) (hr : repA g w av v) : repA g' w' (av.map f) v := by
  cases av with
  | s sv => exact h sv v hr
  | tup vs =>
    obtain ⟨xs, h1, h2, h3⟩ := hr
    refine ⟨xs, h1, by simpa using h2, fun i sv hi => ?_⟩
    rw [List.getElem?_map] at hi
    cases hx : vs[i]? with
    | none => rw [hx] at hi; cases hi
    | some u => rw [hx] at hi; cases hi; exact h u _ (h3 i u hx)
  | agg vs =>
    obtain ⟨xs, h1, h2, h3⟩ := hr
    refine ⟨xs, h1, by simpa using h2, fun i sv hi => ?_⟩
    rw [List.getElem?_map] at hi
    cases hx : vs[i]? with
    | none => rw [hx] at hi; cases hi
    | some u => rw [hx] at hi; cases hi; exact h u _ (h3 i u hx)

theorem ob_map {g g' : G} {w w' : World} {Xh Xd : Nat → Prop} (h : Fr g g' w w' Xh Xd) {f : SV → SV} (hf : ∀ sv v, rep g w sv v → rep g' w' (f sv) v) (j : Nat) (ob : Ob) (hr : obRep g w j ob) (hj : ¬ Xh j) (hj' : ¬ Xd j) :
    obRep g' w' j (ob.map f) := by
  cases ob with
  | cells ty cs =>
    obtain ⟨b, vs, h1, h2, h3, h4, h5⟩ := hr
    obtain ⟨hk, hb⟩ := h.obj b j h2 hj
    refine ⟨b, vs, by rw [h.hd j hj']; exact h1, hk, hb.trans h3, by simpa using h4, fun i sv hi => ?_⟩
    rw [List.getElem?_map] at hi
    cases hx : cs[i]? with
    | none => rw [hx] at hi; cases hi
    | some u => rw [hx] at hi; cases hi; exact hf u _ (h5 i u hx)
  | arr e E xs =>
    obtain ⟨h1, h2⟩ := hr
    have e := h.hd j hj'
    refine ⟨?_, fun b hb => ?_⟩
    · rw [e]
      exact ownsRow_block h1 fun b hb => (h.obj b j (h2 b hb) hj).2
    · rw [e] at hb
      exact (h.obj b j (h2 b hb) hj).1

/-- Killing what leans on object j serves where j's contents turn (`killH`), or its place (`killD`). -/
theorem rep_killH {g g' : G} {w w' : World} {j : Nat} {Xd : Nat → Prop} (h : Fr g g' w w' (· = j) Xd) (hX : ∀ i, ¬ Xd i) (sv : SV) (v : Value) (hr : rep g w sv v) : rep g' w' (sv.killH j) v := by
  unfold SV.killH
  cases hd : sv.heapDep j with
  | true => trivial
  | false => exact rep_fr h sv v hr (fun i hi e => by subst e; rw [hd] at hi; cases hi) (fun i _ => hX i)

theorem heap_hd {sv : SV} {j : Nat} (h : sv.heapDep j = true) : sv.hdDep j = true := by
  cases sv <;> simp [SV.heapDep, SV.hdDep] at h ⊢
  rename_i ow _ _ _ _
  cases ow <;> simp at h ⊢
  exact h

theorem rep_killD {g g' : G} {w w' : World} {j : Nat} (h : Fr g g' w w' (· = j) (· = j)) (sv : SV) (v : Value) (hr : rep g w sv v) : rep g' w' (sv.killD j) v := by
  unfold SV.killD
  cases hd : sv.hdDep j with
  | true => trivial
  | false =>
    refine rep_fr h sv v hr (fun i hi e => ?_) (fun i hi e => ?_)
    · subst e; rw [heap_hd hi] at hd; cases hd
    · subst e; rw [hi] at hd; cases hd

end Go.Proofs.Ytmmadcccjicdcaa.E
