/- Operations that turn memory: each leads from a state that tells of the machine's to the state that the abstract run tells. -/
import Derived.Test.YtmmadcccjicdcaaE2
import Derived.Maps.AppendAt
import Derived.Laws.MakeOwn
import Derived.Great.BuildSlice
import Derived.Room.Entries
import Derived.Laws.CopyRow
namespace Go.Proofs.Ytmmadcccjicdcaa.E
set_option linter.unusedVariables false
set_option linter.unusedSimpArgs false

section
variable {nt : Nat} {w0 : World} {κ0 : Nat → Cls} {C0 : Nat → Prop} {hd0 : Nat → Value} {g g' : G} {s : St} {a : Act} {w w' : World}

theorem Ok.lt {H : Nat → Option Ob} (h : Ok w0 κ0 C0 hd0 g H w) {b : Nat} (hb : g.κ b ≠ .none) : b < w.heap.size := by
  rcases Nat.lt_or_ge b w.heap.size with hl | hl
  · exact hl
  · exact absurd (h.fresh b hl) hb

/-- Object j turns (or is made anew): its contents, its place. -/
theorem Rel.turn (h : Rel nt w0 κ0 C0 hd0 g s a w) (j : Nat) (hj : ¬ C0 j) (ob : Ob)
    (hos : w'.os = w.os) (htape : w'.tape = w.tape) (hout : w'.output = w.output) (hsz : w.heap.size ≤ w'.heap.size)
    (hblk : ∀ b, b < w.heap.size → g.κ b ≠ .obj j → w'.heap[b]? = w.heap[b]?)
    (hκ : ∀ b, b < w.heap.size → g'.κ b = g.κ b) (hfr : ∀ b, w'.heap.size ≤ b → g'.κ b = .none)
    (hhd : ∀ i, i ≠ j → g'.hd i = g.hd i) (hob : obRep g' w' j ob) : Rel nt w0 κ0 C0 hd0 g' (s.new j ob) a w' := by
  have hFr : Fr g g' w w' (· = j) (· = j) := by
    refine ⟨fun b l hb => ?_, fun b i hb hi => ?_, hhd⟩
    · have hl := h.ok.lt (b := b) (by rw [hb]; simp)
      exact ⟨by rw [hκ b hl]; exact hb, hblk b hl (by rw [hb]; simp)⟩
    · have hl := h.ok.lt (b := b) (by rw [hb]; simp)
      exact ⟨by rw [hκ b hl]; exact hb, hblk b hl (by rw [hb]; intro e; cases e; exact hi rfl)⟩
  have hmap := rep_killD hFr
  have hlook : ∀ i, look (s.new j ob).H i = if j = i then some ob else (look s.H i).map (Ob.map (SV.killD j)) := fun i => by
    show look ((j, ob) :: mapH (SV.killD j) s.H) i = _
    rw [look_cons, mapH_look]
  refine ⟨⟨hos.trans h.ok.os, htape.trans h.ok.tape, hout.trans h.ok.output, Nat.le_trans h.ok.size hsz, fun b hb hn => ?_, hfr, fun i ob' hi => ?_, fun i hi => ?_⟩, fun t => ?_, h.nt, h.df⟩
  · obtain ⟨h1, h2⟩ := h.ok.old b hb hn
    have hl : b < w.heap.size := Nat.lt_of_lt_of_le hb h.ok.size
    exact ⟨(hblk b hl (by rw [h2]; exact hn j)).trans h1, (hκ b hl).trans h2⟩
  · rw [hlook] at hi
    split at hi
    · rename_i e; subst e; cases hi; exact hob
    · rename_i hne
      cases hx : look s.H i with
      | none => rw [hx] at hi; cases hi
      | some o =>
        rw [hx] at hi
        cases hi
        exact ob_map hFr hmap i o (h.ok.obs i o hx) (fun e => hne e.symm) (fun e => hne e.symm)
  · obtain ⟨h1, h2, h3⟩ := h.ok.c0 i hi
    have hne : i ≠ j := fun e => hj (e ▸ hi)
    refine ⟨(hhd i hne).trans h1, h2, fun e E xs hx => ?_⟩
    rw [hlook, if_neg (fun e => hne e.symm)] at hx
    cases hy : look s.H i with
    | none => rw [hy] at hx; cases hx
    | some o =>
      rw [hy] at hx
      cases o with
      | cells _ _ => cases hx
      | arr e' E' xs' => exact h3 e' E' xs' hy
  · have : (s.new j ob).get t = (s.map (SV.killD j)).get t := rfl
    rw [this, get_map _ rfl]
    exact repA_map hmap _ _ (h.slots t)

/-- Object j's contents turn where they lie. -/
theorem Rel.poke (h : Rel nt w0 κ0 C0 hd0 g s a w) (j : Nat) (ob : Ob) (hc : ∀ e E xs, ob = .arr e E xs → ¬ C0 j)
    (hos : w'.os = w.os) (htape : w'.tape = w.tape) (hout : w'.output = w.output) (hsz : w'.heap.size = w.heap.size)
    (hblk : ∀ b, g.κ b ≠ .obj j → w'.heap[b]? = w.heap[b]?) (hob : obRep g w' j ob) : Rel nt w0 κ0 C0 hd0 g ((s.map (SV.killH j)).setH j ob) a w' := by
  have hFr : Fr g g w w' (· = j) (fun _ => False) := by
    refine ⟨fun b l hb => ⟨hb, hblk b (by rw [hb]; simp)⟩, fun b i hb hi => ⟨hb, hblk b (by rw [hb]; intro e; cases e; exact hi rfl)⟩, fun _ _ => rfl⟩
  have hmap := rep_killH hFr (fun _ => id)
  have hlook : ∀ i, look ((s.map (SV.killH j)).setH j ob).H i = if j = i then some ob else (look s.H i).map (Ob.map (SV.killH j)) := fun i => by
    show look ((j, ob) :: mapH (SV.killH j) s.H) i = _
    rw [look_cons, mapH_look]
  refine ⟨⟨hos.trans h.ok.os, htape.trans h.ok.tape, hout.trans h.ok.output, by rw [hsz]; exact h.ok.size, fun b hb hn => ?_, fun b hb => h.ok.fresh b (by rw [← hsz]; exact hb), fun i ob' hi => ?_, fun i hi => ?_⟩, fun t => ?_, h.nt, h.df⟩
  · obtain ⟨h1, h2⟩ := h.ok.old b hb hn
    exact ⟨(hblk b (by rw [h2]; exact hn j)).trans h1, h2⟩
  · rw [hlook] at hi
    split at hi
    · rename_i e; subst e; cases hi; exact hob
    · rename_i hne
      cases hx : look s.H i with
      | none => rw [hx] at hi; cases hi
      | some o =>
        rw [hx] at hi
        cases hi
        exact ob_map hFr hmap i o (h.ok.obs i o hx) (fun e => hne e.symm) id
  · obtain ⟨h1, h2, h3⟩ := h.ok.c0 i hi
    refine ⟨h1, h2, fun e E xs hx => ?_⟩
    rw [hlook] at hx
    split at hx
    · rename_i e'; subst e'; cases hx; exact hc e E xs rfl hi
    · cases hy : look s.H i with
      | none => rw [hy] at hx; cases hx
      | some o =>
        rw [hy] at hx
        cases o with
        | cells _ _ => cases hx
        | arr e' E' xs' => exact h3 e' E' xs' hy
  · have : ((s.map (SV.killH j)).setH j ob).get t = (s.map (SV.killH j)).get t := rfl
    rw [this, get_map _ rfl]
    exact repA_map hmap _ _ (h.slots t)

theorem dropH_look (j i : Nat) : ∀ l : List (Nat × Ob), look (dropH j l) i = if j = i then none else look l i
  | [] => by simp [dropH, look]
  | (t, v) :: r => by
    have ih := dropH_look j i r
    unfold dropH
    cases ht : Nat.beq t j with
    | true =>
      have : t = j := Nat.eq_of_beq_eq_true ht
      subst this
      simp only [cond_true, ih, look_cons]
      split <;> rfl
    | false =>
      have : t ≠ j := fun e => by subst e; simp at ht
      simp only [cond_false, look_cons, ih]
      by_cases h1 : t = i
      · subst h1; simp [Ne.symm this]
      · simp [h1]

/-- An own array is shared from now on. -/
def G.freeze (g : G) (j : Nat) : G := ⟨fun b => match g.κ b with | .obj i => if i = j then .shared false else .obj i | c => c, g.hd⟩

theorem own_shared {e : TypeId} {E : El} {xs : List E.T} {v : Value} {κ : Nat → Cls} {hd : Nat → Value} (h : w.ownsRow 0 e 1 v xs.length (xs.map E.enc)) {l m : Bool} (hm : m = true → l = true) (hk : ∀ b, v.ownBlock = some b → κ b = .shared m) :
    rep ⟨κ, hd⟩ w (.sl l e E xs) v := by
  rcases h.2 with ⟨hnil, hz⟩ | ⟨b, cap, cur, hv, _, hb, hnc, _⟩
  · subst hnil
    have : xs = [] := List.eq_nil_of_length_eq_zero hz
    subst this
    exact ⟨none, 0, rfl, Nat.le_refl _, fun hne => absurd rfl hne⟩
  · subst hv
    refine ⟨_, cap, rfl, hnc, fun _ => ⟨b, 0, rfl, ⟨m, hm, hk b rfl⟩, fun i u hi => ?_⟩⟩
    have h' : w.ownsRow 0 e 1 (.slice (some ⟨b, 0, none⟩) xs.length cap) (xs.map E.enc).length (xs.map E.enc) := by rw [List.length_map]; exact h
    rw [Nat.zero_add]
    exact own_cell h' rfl _ (by rw [List.getElem?_map, hi]; rfl)

theorem Rel.freeze (h : Rel nt w0 κ0 C0 hd0 g s a w) (j : Nat) {e : TypeId} {E : El} {xs : List E.T} (hj : look s.H j = some (.arr e E xs)) :
    Rel nt w0 κ0 C0 hd0 (g.freeze j) (s.freeze j) a w := by
  obtain ⟨ho1, ho2⟩ := h.ok.obs j _ hj
  have hFr : Fr g (g.freeze j) w w (· = j) (fun _ => False) := by
    refine ⟨fun b m hb => ⟨by simp [G.freeze, hb], rfl⟩, fun b i hb hi => ⟨?_, rfl⟩, fun _ _ => rfl⟩
    have : ¬ i = j := hi
    simp [G.freeze, hb, this]
  have hmap : ∀ sv v, rep g w sv v → rep (g.freeze j) w (SV.freeze j e E xs sv) v := by
    intro sv v hr
    cases sv with
    | slo k =>
      simp only [SV.freeze]
      cases hk : Nat.beq k j with
      | true =>
        have : k = j := Nat.eq_of_beq_eq_true hk
        subst this
        have hv : v = g.hd k := hr.1
        subst hv
        exact own_shared ho1 (m := false) (by simp) fun b hb => by simp [ho2 b hb]
      | false => exact hr
    | ea ow e' E' ys i =>
      cases ow with
      | none => exact rep_fr hFr _ _ hr (by simp [SV.heapDep, SV.freeze]) (fun _ _ => id)
      | some k =>
        simp only [SV.freeze]
        cases hk : Nat.beq k j with
        | true =>
          have : k = j := Nat.eq_of_beq_eq_true hk
          subst this
          obtain ⟨h0, h1, b, h2, h3, h4, h5⟩ := hr
          refine ⟨h0, h1, b, i.toNat, h4, by simp [G.freeze, h3], ?_⟩
          have h5' : w.ownsRow 0 e' 1 (g.hd k) (ys.map E'.enc).length (ys.map E'.enc) := by rw [List.length_map]; exact h5
          exact own_cell h5' h2 _ (getD_enc E' ys i.toNat (by omega))
        | false =>
          have hne : k ≠ j := fun e => by subst e; simp at hk
          exact rep_fr hFr _ _ hr (fun i hi e => by subst e; simp [SV.heapDep, hne] at hi) (fun _ _ => id)
    | undef => trivial
    | mark => trivial
    | sh l x => exact rep_fr hFr _ _ hr (by simp [SV.heapDep, SV.freeze]) (fun _ _ => id)
    | nil => exact hr
    | int k n => exact hr
    | bool b => exact hr
    | str l => exact hr
    | sl e' E' ys => exact rep_fr hFr _ _ hr (by simp [SV.heapDep, SV.freeze]) (fun _ _ => id)
    | ref k o => exact hr
    | clo f caps => exact hr
  have hfr : s.freeze j = ⟨(s.map (SV.freeze j e E xs)).sl, dropH j (s.map (SV.freeze j e E xs)).H⟩ := by
    unfold St.freeze
    rw [hj]
  have hlook : ∀ i, look (s.freeze j).H i = if j = i then none else (look s.H i).map (Ob.map (SV.freeze j e E xs)) := fun i => by
    rw [hfr]
    show look (dropH j (mapH _ s.H)) i = _
    rw [dropH_look, mapH_look]
  refine ⟨⟨h.ok.os, h.ok.tape, h.ok.output, h.ok.size, fun b hb hn => ?_, fun b hb => by simp [G.freeze, h.ok.fresh b hb], fun i ob' hi => ?_, fun i hi => ?_⟩, fun t => ?_, h.nt, h.df⟩
  · obtain ⟨h1, h2⟩ := h.ok.old b hb hn
    refine ⟨h1, ?_⟩
    show (match g.κ b with | .obj i => if i = j then Cls.shared false else .obj i | c => c) = κ0 b
    rw [h2]
    cases hk : κ0 b with
    | obj i => exact absurd hk (hn i)
    | none => rfl
    | shared m => rfl
  · rw [hlook] at hi
    split at hi
    · cases hi
    · rename_i hne
      cases hx : look s.H i with
      | none => rw [hx] at hi; cases hi
      | some o =>
        rw [hx] at hi
        cases hi
        exact ob_map hFr hmap i o (h.ok.obs i o hx) (fun e => hne e.symm) id
  · obtain ⟨h1, h2, h3⟩ := h.ok.c0 i hi
    refine ⟨h1, h2, fun e' E' xs' hx => ?_⟩
    rw [hlook] at hx
    split at hx
    · cases hx
    · cases hy : look s.H i with
      | none => rw [hy] at hx; cases hx
      | some o =>
        rw [hy] at hx
        cases o with
        | cells _ _ => cases hx
        | arr e'' E'' xs'' => exact h3 _ _ _ hy
  · have : (s.freeze j).get t = (s.map (SV.freeze j e E xs)).get t := by rw [hfr]; rfl
    rw [this, get_map _ rfl]
    exact repA_map hmap _ _ (h.slots t)

/-- A new block, or a new place, for object j. -/
def G.upd (g : G) (j : Nat) (v : Value) (nb : Nat) : G := ⟨fun b => if b = nb then .obj j else g.κ b, fun i => if i = j then v else g.hd i⟩

theorem Rel.fr_alloc (h : Rel nt w0 κ0 C0 hd0 g s a w) (j : Nat) (v : Value) (o : Obj) : Fr g (g.upd j v w.heap.size) w (w.alloc o) (· = j) (· = j) := by
  refine ⟨fun b l hb => ?_, fun b i hb hi => ?_, fun i hi => ?_⟩
  · have hl := h.ok.lt (b := b) (by rw [hb]; simp)
    exact ⟨by simp only [G.upd]; rw [if_neg (by omega)]; exact hb, heap_alloc_old w o b hl⟩
  · have hl := h.ok.lt (b := b) (by rw [hb]; simp)
    exact ⟨by simp only [G.upd]; rw [if_neg (by omega)]; exact hb, heap_alloc_old w o b hl⟩
  · have : ¬ i = j := hi
    simp [G.upd, this]

/-- A block that was just made becomes object j. -/
theorem Rel.alloc (h : Rel nt w0 κ0 C0 hd0 g s a w) (j : Nat) (hj : 1000 ≤ j) (v : Value) (ob : Ob) (o : Obj) (hob : obRep (g.upd j v w.heap.size) (w.alloc o) j ob) :
    Rel nt w0 κ0 C0 hd0 (g.upd j v w.heap.size) (s.new j ob) a (w.alloc o) := by
  have hs : (w.alloc o).heap.size = w.heap.size + 1 := by show (w.heap.push o).size = _; simp
  refine h.turn j (fun hc => ?_) ob rfl rfl rfl (by omega) (fun b hb _ => heap_alloc_old w o b hb) (fun b hb => ?_) (fun b hb => ?_) (fun i hi => ?_) hob
  · have := (h.ok.c0 j hc).2.1; omega
  · simp only [G.upd]; rw [if_neg (by omega)]
  · simp only [G.upd]; rw [if_neg (by omega)]; exact h.ok.fresh b (by omega)
  · simp [G.upd, hi]

end

/- The runs of single operations -/
section
variable {P : Program} {w : World}

theorem run_store1 {t : TypeId} {i : TypeInfo} (hi : P.info? t = some i) (hs : i.size = 1) {b o : Nat} {v u : Value} (hc : w.cell? ⟨b, o, none⟩ = some u) (hf : w.frozen? ⟨b, o, none⟩ = false) (h1 : v.oneCell' = true) :
    (Instr.storeAt t (.pointer (some ⟨b, o, none⟩)) v).run P w = .ok () (w.setCell ⟨b, o, none⟩ v) := by
  have h0 : (⟨b, o, none⟩ : Addr).add 0 = ⟨b, o, none⟩ := rfl
  simp [Instr.storeAt, Instr.sureAddr, storeVar, oneCell_cells h1, run_size hi, hs, storeCells, h0, run_store P w _ v _ h1, hc, hf]

theorem setCell_heap {b o : Nat} {v : Value} {cur : Array Value} {t : TypeId} {fr : Nat × Nat} (h : w.heap[b]? = some (.cells cur t fr)) : (w.setCell ⟨b, o, none⟩ v).heap[b]? = some (.cells (cur.setIfInBounds o v) t fr) := by
  simp [World.setCell, Array.getElem?_modify, h]

theorem setCell_other {b o k : Nat} {v : Value} (h : k ≠ b) : (w.setCell ⟨b, o, none⟩ v).heap[k]? = w.heap[k]? := Go.RowKit.Below.heap_setCell w _ v k h

theorem setCell_size {ad : Addr} {v : Value} : (w.setCell ad v).heap.size = w.heap.size := by simp [World.setCell]

theorem fill_run : ∀ (vs : List Value) (i : Nat) (cs : Array Value) (ps : List (Nat × Value)), (∀ v ∈ vs, v.oneCell' = true) → i + vs.length ≤ cs.size →
    ps.length = vs.length → (∀ k p, ps[k]? = some p → p.1 = i + k ∧ vs[k]? = some p.2) →
    Instr.fill (fun i => some (i * 1, 1)) cs ps = some (cs.toList.take i ++ vs ++ cs.toList.drop (i + vs.length)).toArray
  | [], i, cs, ps, _, _, hl, _ => by
    have : ps = [] := List.eq_nil_of_length_eq_zero (by simpa using hl)
    subst this
    simp [Instr.fill]
  | v :: vs, i, cs, [], _, _, hl, _ => by simp at hl
  | v :: vs, i, cs, (k, u) :: ps, h1, hs, hl, hp => by
    obtain ⟨hk, hu⟩ := hp 0 (k, u) rfl
    simp only [List.getElem?_cons_zero, Option.some.injEq] at hu
    subst hu
    simp only [Nat.add_zero] at hk
    subst hk
    have hv : v.cells = #[v] := oneCell_cells (h1 v (by simp))
    simp only [List.length_cons] at hs
    have ih := fill_run vs (k + 1) (cs.setIfInBounds k v) ps (fun x hx => h1 x (by simp [hx])) (by simp; omega) (by simpa using hl) fun m p hm => by
      have := hp (m + 1) p (by simpa using hm)
      exact ⟨by omega, by simpa using this.2⟩
    unfold Instr.fill
    simp only [Nat.mul_one, hv, List.size_toArray, List.length_cons, List.length_nil]
    rw [if_neg (by simp; omega)]
    have hfold : (#[v].zipIdx.foldl (fun cs (c, j) => cs.setIfInBounds (k + j) c) cs) = cs.setIfInBounds k v := by
      simp
    rw [hfold]
    simp only [Nat.mul_one] at ih
    rw [ih]
    congr 2
    have hlt : k < cs.toList.length := by simp; omega
    simp only [Array.toList_setIfInBounds]
    rw [List.take_succ_eq_append_getElem (by simpa using hlt), List.take_set_of_le (by omega), List.drop_set_of_lt (by omega)]
    simp
    rw [show k + 1 + vs.length = k + (vs.length + 1) by omega]

end

theorem wp_value {P : Program} {o : Oper} {a : Act} {w w' : World} {v : Value} (h : (execOp a.eval o).run P w = .ok (.value v) w') {next : Act → World → Prop} {Q : Exit → Act → World → Prop} (hn : next (a.put o.dst v) w') : o.wp P a w next Q := by
  unfold Oper.wp
  rw [h]
  exact hn

theorem wp_skip' {P : Program} {o : Oper} {a : Act} {w w' : World} (h : (execOp a.eval o).run P w = .ok .skip w') {next : Act → World → Prop} {Q : Exit → Act → World → Prop} (hn : next (a.put o.dst undef) w') : o.wp P a w next Q := by
  unfold Oper.wp
  rw [h]
  exact hn

theorem gets_spec (E : El) : ∀ (ps : List (Nat × SV)) (i : Nat) (xs : List E.T), E.gets i ps = some xs → ps.length = xs.length ∧ ∀ k p, ps[k]? = some p → p.1 = i + k ∧ ∃ x, xs[k]? = some x ∧ E.get p.2 = some x
  | [], i, xs, h => by
    simp only [El.gets, Option.some.injEq] at h
    subst h
    simp
  | (k, v) :: r, i, xs, h => by
    unfold El.gets at h
    cases hk : Nat.beq k i with
    | false => rw [hk] at h; cases h
    | true =>
      rw [hk] at h
      simp only [cond_true] at h
      split at h
      · rename_i x xs' hx hxs
        cases h
        obtain ⟨ih1, ih2⟩ := gets_spec E r (i + 1) xs' hxs
        refine ⟨by simp [ih1], fun m p hm => ?_⟩
        cases m with
        | zero =>
          simp only [List.getElem?_cons_zero, Option.some.injEq] at hm
          subst hm
          exact ⟨Nat.eq_of_beq_eq_true hk, x, rfl, hx⟩
        | succ m =>
          obtain ⟨h1, h2⟩ := ih2 m p (by simpa using hm)
          exact ⟨by omega, by simpa using h2⟩
      · cases h

theorem get_rep {g : G} {w : World} {E : El} {sv : SV} {x : E.T} (h : E.get sv = some x) {v : Value} (hr : rep g w sv v) : v = E.enc x := by
  unfold El.get at h
  split at h
  · rename_i k k' n
    cases hk : decide (k = k') with
    | false => rw [hk] at h; cases h
    | true =>
      rw [hk] at h
      simp only [cond_true, Option.some.injEq] at h
      subst h
      have : k = k' := by simpa using hk
      subst this
      exact hr
  · cases h; exact hr
  · cases h

theorem cast_enc : ∀ (E E' : El) (ys : List E'.T) (zs : List E.T), E.cast E' ys = some zs → zs.map E.enc = ys.map E'.enc ∧ zs.length = ys.length
  | .int k, .int k', ys, zs, h => by
    have h : (cond (decide (k = k')) (some ys) none : Option (List Int)) = some zs := h
    cases hk : decide (k = k') with
    | false => rw [hk] at h; cases h
    | true =>
      rw [hk] at h
      simp only [cond_true, Option.some.injEq] at h
      have : k = k' := by simpa using hk
      subst this
      subst h
      exact ⟨rfl, rfl⟩
  | .str, .str, ys, zs, h => by cases h; exact ⟨rfl, rfl⟩
  | .int _, .str, _, _, h => by cases h
  | .str, .int _, _, _, h => by cases h

section
variable {V : Env} (hV : EnvOk V) {nt : Nat} {w0 : World} {κ0 : Nat → Cls} {C0 : Nat → Prop} {hd0 : Nat → Value} {g : G} {s : St} {a : Act} {w : World}

/-- What a source slice's cells hold. -/
theorem src_rep (h : Rel nt w0 κ0 C0 hd0 g s a w) {E : El} {sv : SV} {ys : List E.T} {v : Value} (hs : srcOf s E sv = some ys) (hr : rep g w sv v) :
    ∃ A c, v = .slice A ys.length c ∧ (ys ≠ [] → ∃ ad, A = some ad ∧ ∀ i u, (ys.map E.enc)[i]? = some u → w.cell? (ad.add i) = some u) := by
  unfold srcOf at hs
  split at hs
  · rename_i e' E' zs
    obtain ⟨he, hl⟩ := cast_enc E E' zs ys hs
    obtain ⟨A, c, h1, h2, h3⟩ := hr
    refine ⟨A, c, by rw [hl]; exact h1, fun hne => ?_⟩
    obtain ⟨b, o, hA, _, hc⟩ := h3 (fun e => by subst e; exact hne (List.eq_nil_of_length_eq_zero hl))
    refine ⟨⟨b, o, none⟩, hA, fun i u hi => ?_⟩
    rw [he, List.getElem?_map] at hi
    cases hz : zs[i]? with
    | none => rw [hz] at hi; cases hi
    | some z => rw [hz] at hi; cases hi; rw [add_lit']; exact hc i z hz
  · rename_i j
    have hv : v = g.hd j := hr.1
    split at hs
    · rename_i e' E' zs hj
      obtain ⟨he, hl⟩ := cast_enc E E' zs ys hs
      obtain ⟨ho, _⟩ := h.ok.obs j _ hj
      rcases ho.2 with ⟨e, hz⟩ | ⟨b, cap, cur, e, _⟩
      · refine ⟨none, 0, by rw [hv, e, hl, hz], fun hne => absurd (List.eq_nil_of_length_eq_zero (hl.trans hz)) hne⟩
      · refine ⟨some ⟨b, 0, none⟩, cap, by rw [hv, e, hl], fun _ => ⟨_, rfl, fun i u hi => ?_⟩⟩
        have ho' : w.ownsRow 0 e' 1 (g.hd j) (zs.map E'.enc).length (zs.map E'.enc) := by rw [List.length_map]; exact ho
        rw [add_lit', Nat.zero_add]
        exact own_cell ho' (by rw [e]; rfl) u (he ▸ hi)
    · cases hs
  · cases hs
    have hv : v = .slice none 0 0 := hr
    exact ⟨none, 0, hv, fun hne => absurd rfl hne⟩
  · cases hs

/-- append of nothing that lies nowhere. -/
theorem run_append_none {P : Program} {t ty e : TypeId} {i : TypeInfo} (ht : P.underlying t = some (.slice e)) (hi : P.info? e = some i) {base size : Nat} {v : Value} {n : Nat} {xs : List Value} (hown : w.ownsRow base e size v n xs) (c : Nat) :
    (Builtin.append_ #[t, t] ty #[v, .slice none 0 c]).run P w = .ok v w := by
  rcases hown.2 with ⟨rfl, rfl⟩ | ⟨b, cap, cur, rfl, _, hb, hnc, _⟩
  · simp [Builtin.append_, run_under ht, run_size hi, Builtin.lenOf, Builtin.firstCells]
  · simp [Builtin.append_, run_under ht, run_size hi, Builtin.lenOf, Builtin.firstCells, hnc, storeCells]

include hV in
/-- append onto an array of the call's own. -/
theorem run_append_any {t ty e : TypeId} {E E' : El} (ht : V.slice t = some (e, E)) {v : Value} {xs ys : List E'.T} (hown : w.ownsRow 0 e 1 v xs.length (xs.map E'.enc)) {A : Option Addr} {c : Nat}
    (hc : ys ≠ [] → ∃ ad, A = some ad ∧ ∀ i u, (ys.map E'.enc)[i]? = some u → w.cell? (ad.add i) = some u) (hl : xs.length + ys.length ≤ LIM) :
    ∃ v' w', (Builtin.append_ #[t, t] ty #[v, .slice A ys.length c]).run V.P w = .ok v' w' ∧ w'.ownsRow 0 e 1 v' (xs ++ ys).length ((xs ++ ys).map E'.enc) ∧ w.grownBy w' v.ownBlock ∧ (v'.ownBlock = v.ownBlock ∨ v'.ownBlock = some w.heap.size) := by
  obtain ⟨hu, i, hi, hs, hz, hb0, hb1, _⟩ := hV.slice t e E ht
  have hl' : xs.length + ys.length ≤ 4294967296 := hl
  have key : ∀ ad : Addr, A = some ad → (∀ i u, (ys.map E'.enc)[i]? = some u → w.cell? (ad.add i) = some u) → ∃ v' w', (Builtin.append_ #[t, t] ty #[v, .slice A ys.length c]).run V.P w = .ok v' w' ∧ w'.ownsRow 0 e 1 v' (xs ++ ys).length ((xs ++ ys).map E'.enc) ∧ w.grownBy w' v.ownBlock ∧ (v'.ownBlock = v.ownBlock ∨ v'.ownBlock = some w.heap.size) := by
    intro ad hA hcells
    subst hA
    obtain ⟨v', w', h1, h2, h3, _, h5⟩ := run_append_own_at (P := V.P) w 0 t ty e i (E.enc E.zero) 1 i.bytes hu hi hz hs rfl (by rw [oneCell_cells (enc_one E _)]; rfl) (by omega) v xs.length (xs.map E'.enc) hown
      ad ys.length c (ys.map E'.enc) (by simp) hcells (fun u hm => by obtain ⟨y, _, rfl⟩ := List.mem_map.1 hm; exact enc_one E' y) (by simp only [maxLen]; omega)
      (by have := Nat.mul_le_mul (show xs.length + ys.length ≤ 4294967296 from hl') hb1; omega) (Nat.zero_le _)
    exact ⟨v', w', h1, by rw [List.length_append, List.map_append]; exact h2, h3, h5⟩
  cases A with
  | none =>
    have : ys = [] := by
      cases ys with
      | nil => rfl
      | cons y r => obtain ⟨ad, hA, _⟩ := hc (by simp); cases hA
    subst this
    exact ⟨v, w, run_append_none hu hi hown c, by simpa using hown, ⟨rfl, rfl, rfl, Nat.le_refl _, fun _ _ _ => rfl⟩, .inl rfl⟩
  | some ad =>
    refine key ad rfl fun i u hi' => ?_
    by_cases hne : ys = []
    · subst hne; simp at hi'
    · obtain ⟨ad', hA, hcells⟩ := hc hne
      cases hA
      exact hcells i u hi'

theorem Rel.notC (h : Rel nt w0 κ0 C0 hd0 g s a w) {j : Nat} {e : TypeId} {E : El} {xs : List E.T} (hj : look s.H j = some (.arr e E xs)) : ¬ C0 j := fun hc => (h.ok.c0 j hc).2.2 e E xs hj

include hV in
theorem run_buildSlice' (h : Rel nt w0 κ0 C0 hd0 g s a w) {t len : Nat} {parts : Array (Nat × Operand)} {e : TypeId} {E : El} {xs : List E.T}
    (ht : V.slice t = some (e, E)) (hxs : E.gets 0 (parts.toList.map fun p => (p.1, evs s p.2)) = some xs) (hl : len = xs.length) (hl2 : len ≤ 1000000) :
    (Instr.buildSlice t len (parts.map fun (i, x) => (i, a.eval x))).run V.P w = .ok (.slice (some ⟨w.heap.size, 0, none⟩) len len) (w.alloc (.cells (xs.map E.enc).toArray e)) ∧
    (w.alloc (.cells (xs.map E.enc).toArray e)).ownsRow 0 e 1 (.slice (some ⟨w.heap.size, 0, none⟩) len len) xs.length (xs.map E.enc) := by
  obtain ⟨hu, i, hi, hsz, hz, _⟩ := hV.slice t e E ht
  obtain ⟨hg1, hg2⟩ := gets_spec E _ 0 xs hxs
  have hr : (Instr.buildSlice t len (parts.map fun (i, x) => (i, a.eval x))).run V.P w = .ok (.slice (some ⟨w.heap.size, 0, none⟩) len len) (w.alloc (.cells (xs.map E.enc).toArray e)) := by
    have hfill : ∀ cs : Array Value, cs.size = xs.length → Instr.fill (fun i => some (i * 1, 1)) cs (parts.map fun (i, x) => (i, a.eval x)).toList = some (xs.map E.enc).toArray := by
      intro cs hcs
      have := fill_run (xs.map E.enc) 0 cs (parts.map fun (i, x) => (i, a.eval x)).toList (fun v hv => by obtain ⟨y, _, rfl⟩ := List.mem_map.1 hv; exact enc_one E y) (by simp [hcs])
        (by simp only [List.length_map] at hg1 ⊢; simpa using hg1) fun k p hp => by
          simp only [Array.toList_map, List.getElem?_map] at hp
          cases hq : parts.toList[k]? with
          | none => rw [hq] at hp; cases hp
          | some q =>
            rw [hq] at hp
            cases hp
            obtain ⟨h3, y, h4, h5⟩ := hg2 k (q.1, evs s q.2) (by simp only [List.getElem?_map, hq, Option.map_some])
            refine ⟨h3, ?_⟩
            rw [List.getElem?_map, h4]
            exact congrArg some (get_rep h5 (evs_rep h q.2)).symm
      rw [this]
      simp [hcs]
    by_cases h0 : len = 0
    · have hx0 : xs = [] := List.eq_nil_of_length_eq_zero (by omega)
      subst hx0
      subst h0
      have hp0 : parts = #[] := by
        rw [← Array.toList_inj]
        exact List.eq_nil_of_length_eq_zero (by simpa using hg1)
      subst hp0
      simp [Instr.buildSlice, run_under hu, run_size hi, hsz, newRow, Instr.fill]
      congr 2
      apply Array.toList_inj.1
      simp
    · refine run_buildSlice w t e len _ _ i (E.enc E.zero) hu hi hz (by rw [hsz]; omega) (by rw [hsz]; omega) ?_
      rw [hsz]
      exact hfill _ (by simp [hl])
  have hown : (w.alloc (.cells (xs.map E.enc).toArray e)).ownsRow 0 e 1 (.slice (some ⟨w.heap.size, 0, none⟩) len len) xs.length (xs.map E.enc) :=
    ⟨by simp, .inr ⟨w.heap.size, len, (xs.map E.enc).toArray, by rw [hl], Nat.zero_le _, heap_alloc_new w _, by omega, by simp only [maxLen]; omega, by simp [hl], by rw [Nat.mul_one]; exact List.take_of_length_le (by simp)⟩⟩
  exact ⟨hr, hown⟩

theorem own_one {e : TypeId} {v : Value} {n : Nat} {xs : List Value} (h : w.ownsRow 0 e 1 v n xs) : v.oneCell' = true := by
  rcases h.2 with ⟨e, _⟩ | ⟨b, cap, cur, e, _⟩ <;> (rw [e]; rfl)

/-- Behind an append. -/
theorem Rel.append (h : Rel nt w0 κ0 C0 hd0 g s a w) {j : Nat} (hj : ¬ C0 j) {v v' : Value} {w' : World} {e : TypeId} {E : El} {zs : List E.T} (ho : ∀ b, v.ownBlock = some b → g.κ b = .obj j)
    (h2 : w'.ownsRow 0 e 1 v' zs.length (zs.map E.enc)) (h3 : w.grownBy w' v.ownBlock) (h4 : v'.ownBlock = v.ownBlock ∨ v'.ownBlock = some w.heap.size) :
    Rel nt w0 κ0 C0 hd0 ⟨fun b => if v'.ownBlock = some b then .obj j else g.κ b, fun i => if i = j then v' else g.hd i⟩ (s.new j (.arr e E zs)) a w' := by
  refine h.turn j hj _ h3.os h3.tape h3.output h3.size (fun b hb hk => h3.block b hb (fun e => hk (ho b e.symm))) (fun b hb => ?_) (fun b hb => ?_) (fun i hi => by simp [hi]) ⟨by simpa using h2, fun b hb => by simp only [if_true] at hb; simp [hb]⟩
  · by_cases hv : v'.ownBlock = some b
    · rcases h4 with h4 | h4
      · simp only [hv, if_true]; rw [h4] at hv; exact (ho b hv).symm
      · rw [h4] at hv; cases hv; omega
    · simp only [hv, if_false]
  · have hne : ¬ v'.ownBlock = some b := fun e => by have := (h2.lt b e).2; omega
    simp only [hne, if_false]
    exact h.ok.fresh b (Nat.le_trans h3.size hb)

theorem Rel.nilArr (h : Rel nt w0 κ0 C0 hd0 g s a w) (d : Nat) (e : TypeId) (E : El) :
    Rel nt w0 κ0 C0 hd0 ⟨g.κ, fun i => if i = d + 1000 then .slice none 0 0 else g.hd i⟩ (s.new (d + 1000) (.arr e E [])) a w := by
  refine h.turn (d + 1000) (fun hc => by have := (h.ok.c0 _ hc).2.1; omega) _ rfl rfl rfl (Nat.le_refl _) (fun _ _ _ => rfl) (fun _ _ => rfl) h.ok.fresh (fun i hi => by simp [hi]) ⟨?_, fun b hb => ?_⟩
  · simp only [if_true]
    exact World.ownsRow_nil w 0 e 1
  · simp only [if_true] at hb
    cases hb

theorem Rel.congr {s' : St} (h : Rel nt w0 κ0 C0 hd0 g s a w) (hg : ∀ t, s'.get t = s.get t) (hH : ∀ j, look s'.H j = look s.H j) : Rel nt w0 κ0 C0 hd0 g s' a w := by
  refine ⟨⟨h.ok.os, h.ok.tape, h.ok.output, h.ok.size, h.ok.old, h.ok.fresh, fun j ob hj => h.ok.obs j ob (by rw [← hH]; exact hj), fun j hj => ?_⟩, fun t => by rw [hg]; exact h.slots t, h.nt, h.df⟩
  obtain ⟨h1, h2, h3⟩ := h.ok.c0 j hj
  exact ⟨h1, h2, fun e E xs hx => h3 e E xs (by rw [← hH]; exact hx)⟩

/-- New blocks, some of them shared; nothing else has turned. -/
theorem Rel.more (h : Rel nt w0 κ0 C0 hd0 g s a w) {g' : G} {w' : World} (hos : w'.os = w.os) (htape : w'.tape = w.tape) (hout : w'.output = w.output) (hsz : w.heap.size ≤ w'.heap.size)
    (hblk : ∀ b, b < w.heap.size → g.κ b ≠ .none → w'.heap[b]? = w.heap[b]?) (hblk0 : ∀ b, b < w0.heap.size → (∀ j, κ0 b ≠ .obj j) → w'.heap[b]? = w.heap[b]?) (hκ : ∀ b, b < w.heap.size → g'.κ b = g.κ b) (hfr : ∀ b, w'.heap.size ≤ b → g'.κ b = .none) (hhd : g'.hd = g.hd) :
    Fr g g' w w' (fun _ => False) (fun _ => False) ∧ Rel nt w0 κ0 C0 hd0 g' s a w' := by
  have hFr : Fr g g' w w' (fun _ => False) (fun _ => False) := by
    refine ⟨fun b l hb => ?_, fun b i hb _ => ?_, fun i _ => by rw [hhd]⟩
    · have hl := h.ok.lt (b := b) (by rw [hb]; simp)
      exact ⟨by rw [hκ b hl]; exact hb, hblk b hl (by rw [hb]; simp)⟩
    · have hl := h.ok.lt (b := b) (by rw [hb]; simp)
      exact ⟨by rw [hκ b hl]; exact hb, hblk b hl (by rw [hb]; simp)⟩
  refine ⟨hFr, ⟨⟨hos.trans h.ok.os, htape.trans h.ok.tape, hout.trans h.ok.output, Nat.le_trans h.ok.size hsz, fun b hb hn => ?_, hfr, fun i ob hi => ?_, fun i hi => ?_⟩, fun t => ?_, h.nt, h.df⟩⟩
  · obtain ⟨h1, h2⟩ := h.ok.old b hb hn
    have hl : b < w.heap.size := Nat.lt_of_lt_of_le hb h.ok.size
    exact ⟨(hblk0 b hb hn).trans h1, (hκ b hl).trans h2⟩
  · exact ob_fr hFr i ob (h.ok.obs i ob hi) id id fun _ _ _ _ _ => ⟨fun _ _ => id, fun _ _ => id⟩
  · obtain ⟨h1, h2, h3⟩ := h.ok.c0 i hi
    exact ⟨by rw [hhd]; exact h1, h2, h3⟩
  · have := repA_map (f := id) (fun sv v hr => rep_fr hFr sv v hr (fun _ _ => id) (fun _ _ => id)) _ _ (h.slots t)
    have he : (s.get t).map id = s.get t := by
      cases s.get t with
      | s v => rfl
      | tup vs => simp [AV.map]
      | agg vs => simp [AV.map]
    rw [he] at this
    exact this

/-- A block that was just made is shared from now on. -/
theorem Rel.share (h : Rel nt w0 κ0 C0 hd0 g s a w) (o : Obj) : Rel nt w0 κ0 C0 hd0 ⟨fun b => if b = w.heap.size then .shared false else g.κ b, g.hd⟩ s a (w.alloc o) := by
  have hs : (w.alloc o).heap.size = w.heap.size + 1 := by show (w.heap.push o).size = _; simp
  refine (h.more (g' := ⟨fun b => if b = w.heap.size then .shared false else g.κ b, g.hd⟩) (w' := w.alloc o) rfl rfl rfl (by omega) (fun b hb _ => heap_alloc_old w o b hb) (fun b hb _ => heap_alloc_old w o b (Nat.lt_of_lt_of_le hb h.ok.size)) (fun b hb => ?_) (fun b hb => ?_) rfl).2
  · show (if b = w.heap.size then _ else _) = _
    rw [if_neg (by omega)]
  · show (if b = w.heap.size then _ else _) = _
    rw [if_neg (by omega)]
    exact h.ok.fresh b (by omega)

/-- The same in one step of draws: memory as it was, but for new blocks of which one is shared. -/
theorem Rel.shareAt (h : Rel nt w0 κ0 C0 hd0 g s a w) {w' : World} (hg : w.grownBy w' none) : Rel nt w0 κ0 C0 hd0 ⟨fun b => if b = w.heap.size ∧ b < w'.heap.size then .shared false else g.κ b, g.hd⟩ s a w' := by
  refine (h.more (g' := ⟨fun b => if b = w.heap.size ∧ b < w'.heap.size then .shared false else g.κ b, g.hd⟩) (w' := w') hg.os hg.tape hg.output hg.size (fun b hb _ => hg.block b hb (by simp)) (fun b hb _ => hg.block b (Nat.lt_of_lt_of_le hb h.ok.size) (by simp)) (fun b hb => ?_) (fun b hb => ?_) rfl).2
  · show (if b = w.heap.size ∧ _ then _ else _) = _
    rw [if_neg (by omega)]
  · show (if b = w.heap.size ∧ _ then _ else _) = _
    rw [if_neg (by omega)]
    exact h.ok.fresh b (by have := hg.size; omega)

def setPairs (cs : Array Value) : Nat → List (Value × Value) → Array Value
  | _, [] => cs
  | i, (a, b) :: r => setPairs ((cs.setIfInBounds (i * 2) a).setIfInBounds (i * 2 + 1) b) (i + 1) r

def flatP : List (Value × Value) → List Value
  | [] => []
  | (a, b) :: r => a :: b :: flatP r

theorem flatP_length : ∀ l, (flatP l).length = 2 * l.length
  | [] => rfl
  | (a, b) :: r => by simp [flatP, flatP_length r]; omega

theorem setPairs_size : ∀ (l : List (Value × Value)) (i : Nat) (cs : Array Value), (setPairs cs i l).size = cs.size
  | [], i, cs => rfl
  | (a, b) :: r, i, cs => by simp [setPairs, setPairs_size r]

theorem setPairs_get : ∀ (l : List (Value × Value)) (i : Nat) (cs : Array Value), 2 * (i + l.length) ≤ cs.size → (∀ m, m < 2 * i → (setPairs cs i l)[m]? = cs[m]?) ∧ ∀ (n : Nat) u, (flatP l)[n]? = some u → (setPairs cs i l)[2 * i + n]? = some u
  | [], i, cs, h => ⟨fun _ _ => rfl, fun n u hn => by simp [flatP] at hn⟩
  | (a, b) :: r, i, cs, h => by
    simp only [List.length_cons] at h
    obtain ⟨h1, h2⟩ := setPairs_get r (i + 1) ((cs.setIfInBounds (i * 2) a).setIfInBounds (i * 2 + 1) b) (by simp; omega)
    refine ⟨fun m hm => ?_, fun n u hn => ?_⟩
    · rw [setPairs, h1 m (by omega), Array.getElem?_setIfInBounds, Array.getElem?_setIfInBounds, if_neg (by omega), if_neg (by omega)]
    · match n, hn with
      | 0, hn =>
        simp only [flatP, List.getElem?_cons_zero, Option.some.injEq] at hn
        subst hn
        rw [setPairs, h1 _ (by omega), Array.getElem?_setIfInBounds, Array.getElem?_setIfInBounds, if_neg (by omega), if_pos (by omega), if_pos (by omega)]
      | 1, hn =>
        simp only [flatP, List.getElem?_cons_succ, List.getElem?_cons_zero, Option.some.injEq] at hn
        subst hn
        rw [setPairs, h1 _ (by omega), Array.getElem?_setIfInBounds, if_pos (by omega), if_pos (by simp; omega)]
      | n + 2, hn =>
        simp only [flatP, List.getElem?_cons_succ] at hn
        have := h2 n u hn
        rw [setPairs]
        rw [show 2 * i + (n + 2) = 2 * (i + 1) + n by omega]
        exact this

theorem fill_pairs : ∀ (l : List (Value × Value)) (i : Nat) (cs : Array Value) (ps : List (Nat × Value)), 2 * (i + l.length) ≤ cs.size → ps.length = l.length → (∀ (n : Nat) p, ps[n]? = some p → p.1 = i + n ∧ ∃ q, l[n]? = some q ∧ p.2 = .agg #[q.1, q.2]) →
    Instr.fill (fun i => some (i * 2, 2)) cs ps = some (setPairs cs i l)
  | [], i, cs, ps, h, hl, hp => by
    have : ps = [] := List.eq_nil_of_length_eq_zero (by simpa using hl)
    subst this
    rfl
  | (a, b) :: r, i, cs, [], h, hl, hp => by simp at hl
  | (a, b) :: r, i, cs, (j, v) :: ps, h, hl, hp => by
    obtain ⟨hj, q, hq, hv⟩ := hp 0 (j, v) rfl
    simp only [List.getElem?_cons_zero, Option.some.injEq] at hq
    subst hq
    simp only at hj hv
    subst hv
    have hj' : j = i := by omega
    subst hj'
    simp only [List.length_cons] at h
    unfold Instr.fill
    simp only [Value.cells, List.size_toArray, List.length_cons, List.length_nil]
    rw [if_neg (by simp; omega)]
    have : (#[a, b].zipIdx.foldl (fun cs (c, m) => cs.setIfInBounds (j * 2 + m) c) cs) = (cs.setIfInBounds (j * 2) a).setIfInBounds (j * 2 + 1) b := by simp
    rw [this, fill_pairs r (j + 1) _ ps (by simp; omega) (by simpa using hl) fun n p hn => by
      obtain ⟨h1, q, h2, h3⟩ := hp (n + 1) p (by simpa using hn)
      exact ⟨by omega, q, by simpa using h2, h3⟩]
    rfl

theorem flatI_length : ∀ l, (flatI l).length = 2 * l.length
  | [] => rfl
  | (a, b) :: r => by simp [flatI, flatI_length r]; omega

theorem tabParts_cons {i j : Nat} {v : AV} {r : List (Nat × AV)} {out : List (Int × Int)} (h : tabParts i ((j, v) :: r) = some out) :
    ∃ p q out', v = .agg [.int .i64 p, .int .i64 q] ∧ j = i ∧ tabParts (i + 1) r = some out' ∧ out = (p, q) :: out' := by
  have key : ∀ p q, v = .agg [.int .i64 p, .int .i64 q] → ∃ out', j = i ∧ tabParts (i + 1) r = some out' ∧ out = (p, q) :: out' := by
    intro p q hv
    subst hv
    simp only [tabParts] at h
    cases hj : Nat.beq j i with
    | false => rw [hj] at h; cases h
    | true =>
      rw [hj] at h
      simp only [cond_true] at h
      split at h
      · rename_i ps hps; cases h; exact ⟨ps, Nat.eq_of_beq_eq_true hj, hps, rfl⟩
      · cases h
  cases v with
  | s _ => simp [tabParts] at h
  | tup _ => simp [tabParts] at h
  | agg vs =>
    rcases vs with _ | ⟨x, _ | ⟨y, _ | ⟨z, r'⟩⟩⟩
    · simp [tabParts] at h
    · simp [tabParts] at h
    · cases x <;> (try (simp [tabParts] at h; done))
      rename_i k p
      cases y <;> (try (cases k <;> simp [tabParts] at h; done))
      rename_i k' q
      cases k <;> (try (simp [tabParts] at h; done))
      cases k' <;> (try (simp [tabParts] at h; done))
      obtain ⟨out', h1, h2, h3⟩ := key p q rfl
      exact ⟨p, q, out', rfl, h1, h2, h3⟩
    · cases x <;> (try (simp [tabParts] at h; done))

theorem tab_spec (h : Rel nt w0 κ0 C0 hd0 g s a w) : ∀ (ps : List (Nat × Operand)) (i : Nat) (out : List (Int × Int)), tabParts i (ps.map fun p => (p.1, ev s p.2)) = some out → ps.length = out.length ∧
    ∀ (n : Nat) p, ps[n]? = some p → p.1 = i + n ∧ ∃ q, out[n]? = some q ∧ a.eval p.2 = .agg #[.int .i64 q.1, .int .i64 q.2]
  | [], i, out, ho => by cases ho; exact ⟨rfl, fun n p hp => by simp at hp⟩
  | (j, x) :: ps, i, out, ho => by
    obtain ⟨p, q, ps', hv, hji, hps', rfl⟩ := tabParts_cons ho
    obtain ⟨h1, h2⟩ := tab_spec h ps (i + 1) ps' hps'
    refine ⟨by simp [h1], fun n y hy => ?_⟩
    cases n with
    | zero =>
      simp only [List.getElem?_cons_zero, Option.some.injEq] at hy
      subst hy
      refine ⟨by simpa using hji, (p, q), rfl, ?_⟩
      have := ev_rep h x
      have hv' : ev s x = .agg [.int .i64 p, .int .i64 q] := hv
      rw [hv'] at this
      obtain ⟨xs, x1, x2, x3⟩ := this
      have a0 : xs.getD 0 undef = .int .i64 p := x3 0 _ rfl
      have a1 : xs.getD 1 undef = .int .i64 q := x3 1 _ rfl
      show a.eval x = _
      rw [x1]
      congr 1
      apply Array.ext (by simpa using x2)
      intro m hm hm'
      simp only [List.size_toArray, List.length_cons, List.length_nil] at hm'
      have : m = 0 ∨ m = 1 := by omega
      rcases this with rfl | rfl
      · rw [Array.getD_eq_getD_getElem?, Array.getElem?_eq_getElem hm] at a0
        simpa using a0
      · rw [Array.getD_eq_getD_getElem?, Array.getElem?_eq_getElem hm] at a1
        simpa using a1
    | succ n =>
      obtain ⟨h3, h4⟩ := h2 n y (by simpa using hy)
      exact ⟨by omega, by simpa using h4⟩

include hV in
theorem run_buildTab (h : Rel nt w0 κ0 C0 hd0 g s a w) {t len : Nat} {parts : Array (Nat × Operand)} {e : TypeId} {ps : List (Int × Int)} (ht : V.tab t = some (e, 2)) (hps : tabParts 0 (parts.toList.map fun p => (p.1, ev s p.2)) = some ps)
    (hl : len = ps.length) (hl2 : len ≤ 1000000) (hl3 : 0 < len) : ∃ cells : Array Value, (Instr.buildSlice t len (parts.map fun (i, x) => (i, a.eval x))).run V.P w = .ok (.slice (some ⟨w.heap.size, 0, none⟩) len len) (w.alloc (.cells cells e)) ∧
      ∀ (i : Nat) u, (flatI ps)[i]? = some u → cells[i]? = some (.int .i64 u) := by
  obtain ⟨hu, _, ti, zc, hti, hsz, hz, hzs⟩ := hV.tab t e 2 ht
  obtain ⟨h1, h2⟩ := tab_spec h _ _ _ hps
  have hmap : (parts.map fun (i, x) => (i, a.eval x)).toList = parts.toList.map fun p => (p.1, a.eval p.2) := by simp
  let l : List (Value × Value) := ps.map fun q => (.int .i64 q.1, .int .i64 q.2)
  have hll : l.length = len := by simp [l, hl]
  let cs : Array Value := (Array.range (len * ti.size)).map (zc[· % zc.size]!)
  have hcs : cs.size = len * 2 := by simp [cs, hsz]
  have hfill := fill_pairs l 0 cs ((parts.map fun (i, x) => (i, a.eval x)).toList) (by omega) (by rw [hmap, List.length_map, h1, hll, hl]) fun n p hp => by
    rw [hmap, List.getElem?_map] at hp
    cases hq : parts.toList[n]? with
    | none => rw [hq] at hp; cases hp
    | some y =>
      rw [hq] at hp
      cases hp
      obtain ⟨h3, q, h4, h5⟩ := h2 n y hq
      exact ⟨h3, (.int .i64 q.1, .int .i64 q.2), by simp [l, h4], h5⟩
  have hr := run_buildSlice (P := V.P) w t e len (parts.map fun (i, x) => (i, a.eval x)) (setPairs cs 0 l) ti (.agg zc) hu hti hz (by rw [hsz]; omega) (by rw [hsz]; omega) (by
    rw [hsz]
    have : ((Array.range (len * 2)).map (fun x => (Value.agg zc).cells[x % (Value.agg zc).cells.size]!)) = cs := by simp [cs, hsz, Value.cells]
    rw [this]
    exact hfill)
  refine ⟨_, hr, fun i u hi => ?_⟩
  have hflat : ∀ (ps : List (Int × Int)) (i : Nat) u, (flatI ps)[i]? = some u → (flatP (ps.map fun q => (Value.int .i64 q.1, Value.int .i64 q.2)))[i]? = some (.int .i64 u) := by
    intro ps
    induction ps with
    | nil => intro i u hi; simp [flatI] at hi
    | cons q r ih =>
      intro i u hi
      obtain ⟨p, q⟩ := q
      match i, hi with
      | 0, hi => simp [flatI] at hi; subst hi; simp [flatP]
      | 1, hi => simp [flatI] at hi; subst hi; simp [flatP]
      | i + 2, hi => simp only [flatI, List.getElem?_cons_succ] at hi; simp only [List.map_cons, flatP, List.getElem?_cons_succ]; exact ih i u hi
  have := (setPairs_get l 0 cs (by omega)).2 i (.int .i64 u) (hflat ps i u hi)
  simpa using this

theorem rowParts_cons {e : TypeId} {i j : Nat} {v : SV} {r : List (Nat × SV)} {l : Bool} {out : List (List Int)} (h : rowParts e i ((j, v) :: r) = some (l, out)) :
    ∃ l1 e' xs l2 out', v = .sl l1 e' (.int .i64) xs ∧ j = i ∧ rowParts e (i + 1) r = some (l2, out') ∧ out = xs :: out' ∧ l = (l1 || l2) := by
  cases v with
  | sl l1 e' E xs =>
    cases E with
    | str => simp [rowParts] at h
    | int k =>
      cases k <;> (try (simp [rowParts] at h; done))
      simp only [rowParts] at h
      cases hj : (Nat.beq j i && Nat.beq e' e) with
      | false => rw [hj] at h; cases h
      | true =>
        rw [hj] at h
        rw [Bool.and_eq_true] at hj
        simp only [cond_true] at h
        split at h
        · rename_i l2 xss hps; cases h; exact ⟨l1, e', xs, l2, xss, rfl, Nat.eq_of_beq_eq_true hj.1, hps, rfl, rfl⟩
        · cases h
  | _ => simp [rowParts] at h

theorem rows_spec {g : G} {w : World} {e : TypeId} : ∀ (ps : List (Nat × SV)) (vs : List (Nat × Value)) (i : Nat) (l : Bool) (out : List (List Int)), rowParts e i ps = some (l, out) → ps.length = vs.length →
    (∀ (n : Nat) p v, ps[n]? = some p → vs[n]? = some v → p.1 = v.1 ∧ rep g w p.2 v.2) → ps.length = out.length ∧ (∀ (n : Nat) v, vs[n]? = some v → v.1 = i + n ∧ v.2.oneCell' = true) ∧ ∀ (n : Nat) v xs, vs[n]? = some v → out[n]? = some xs → rowRep g w l xs v.2
  | [], vs, i, l, out, ho, hl, hv => by
    cases ho
    have : vs = [] := List.eq_nil_of_length_eq_zero (by simpa using hl.symm)
    subst this
    exact ⟨rfl, fun n v hn => by simp at hn, fun n v xs hn => by simp at hn⟩
  | (j, x) :: ps, [], i, l, out, ho, hl, hv => by simp at hl
  | (j, x) :: ps, (j', v0) :: vs, i, l, out, ho, hl, hv => by
    obtain ⟨l1, e', xs, l2, out', hx, hji, hps, rfl, rfl⟩ := rowParts_cons ho
    subst hx
    obtain ⟨h1, h2, h3⟩ := rows_spec ps vs (i + 1) l2 out' hps (by simpa using hl) fun n p v hp hv' => hv (n + 1) p v (by simpa using hp) (by simpa using hv')
    obtain ⟨h4, h5⟩ := hv 0 _ _ rfl rfl
    simp only at h4 h5
    obtain ⟨A, c, hA1, hA2, hA3⟩ := h5
    refine ⟨by simp [h1], fun n v hn => ?_, fun n v ys hn hy => ?_⟩
    · cases n with
      | zero =>
        simp only [List.getElem?_cons_zero, Option.some.injEq] at hn
        subst hn
        exact ⟨by simp only; omega, by simp only; rw [hA1]; rfl⟩
      | succ n =>
        obtain ⟨h6, h7⟩ := h2 n v (by simpa using hn)
        exact ⟨by omega, h7⟩
    · cases n with
      | zero =>
        simp only [List.getElem?_cons_zero, Option.some.injEq] at hn hy
        subst hn
        subst hy
        refine ⟨A, c, hA1, hA2, fun hne => ?_⟩
        obtain ⟨b, o, h8, ⟨m, hm, hk⟩, h9⟩ := hA3 hne
        exact ⟨b, o, h8, ⟨m, fun e => by simp [hm e], hk⟩, h9⟩
      | succ n =>
        obtain ⟨A', c', h8, h9, h10⟩ := h3 n v ys (by simpa using hn) (by simpa using hy)
        refine ⟨A', c', h8, h9, fun hne => ?_⟩
        obtain ⟨b, o, h11, ⟨m, hm, hk⟩, h12⟩ := h10 hne
        exact ⟨b, o, h11, ⟨m, fun e => by simp [hm e], hk⟩, h12⟩

include hV in
theorem run_buildRows (h : Rel nt w0 κ0 C0 hd0 g s a w) {t len : Nat} {parts : Array (Nat × Operand)} {e0 e : TypeId} {l : Bool} {xss : List (List Int)} (ht : V.rows t = some (e0, e)) (hps : rowParts e 0 (parts.toList.map fun p => (p.1, evs s p.2)) = some (l, xss))
    (hl : len = xss.length) (hl2 : len ≤ 1000000) : ∃ vs : List Value, vs.length = len ∧ (Instr.buildSlice t len (parts.map fun (i, x) => (i, a.eval x))).run V.P w = .ok (.slice (some ⟨w.heap.size, 0, none⟩) len len) (w.alloc (.cells vs.toArray e0)) ∧
      ∀ (i : Nat) xs, xss[i]? = some xs → ∃ v, vs[i]? = some v ∧ rowRep g w l xs v := by
  obtain ⟨hu, ti, zv, hti, hsz, hz, hz1, _⟩ := hV.rows t e0 e ht
  have hmap : (parts.map fun (i, x) => (i, a.eval x)).toList = parts.toList.map fun p => (p.1, a.eval p.2) := by simp
  obtain ⟨h1, h2, h3⟩ := rows_spec (g := g) (w := w) (parts.toList.map fun p => (p.1, evs s p.2)) (parts.toList.map fun p => (p.1, a.eval p.2)) 0 l xss hps (by simp) fun n p v hp hv => by
    rw [List.getElem?_map] at hp hv
    cases hq : parts.toList[n]? with
    | none => rw [hq] at hp; cases hp
    | some y => rw [hq] at hp hv; cases hp; cases hv; exact ⟨rfl, evs_rep h y.2⟩
  rw [List.length_map] at h1
  let vs := parts.toList.map fun p => a.eval p.2
  have hvl : vs.length = len := by simp only [vs, List.length_map]; omega
  have hfill : ∀ cs : Array Value, cs.size = len → Instr.fill (fun i => some (i * 1, 1)) cs (parts.map fun (i, x) => (i, a.eval x)).toList = some vs.toArray := by
    intro cs hcs
    have := fill_run vs 0 cs (parts.map fun (i, x) => (i, a.eval x)).toList (fun v hv => by
      obtain ⟨p, hp, rfl⟩ := List.mem_map.1 hv
      obtain ⟨n, hn, hpn⟩ := List.mem_iff_getElem.1 hp
      exact (h2 n (p.1, a.eval p.2) (by rw [List.getElem?_map, List.getElem?_eq_getElem hn, hpn]; rfl)).2) (by omega) (by rw [hmap]; simp [vs]) fun n p hp => by
        rw [hmap] at hp
        refine ⟨(h2 n p hp).1, ?_⟩
        rw [List.getElem?_map] at hp ⊢
        cases hq : parts.toList[n]? with
        | none => rw [hq] at hp; cases hp
        | some y => rw [hq] at hp; cases hp; rfl
    rw [this]
    simp [hcs, hvl]
  refine ⟨vs, hvl, ?_, fun i xs hi => ?_⟩
  · by_cases h0 : len = 0
    · have hp0 : parts = #[] := by
        rw [← Array.toList_inj]
        exact List.eq_nil_of_length_eq_zero (by rw [← hvl] at h0; simpa [vs] using h0)
      subst hp0
      subst h0
      have hv0 : vs = [] := rfl
      simp only [hv0]
      simp [Instr.buildSlice, run_under hu, run_size hti, hsz, newRow, Instr.fill]
      congr 2
      apply Array.toList_inj.1
      simp
    · refine run_buildSlice w t e0 len _ _ ti zv hu hti hz (by rw [hsz]; omega) (by rw [hsz]; omega) ?_
      rw [hsz]
      exact hfill _ (by simp)
  · have hlt : i < xss.length := (List.getElem?_eq_some_iff.1 hi).1
    have hil : i < parts.toList.length := by omega
    refine ⟨a.eval parts.toList[i].2, by simp [vs, List.getElem?_eq_getElem hil], h3 i (parts.toList[i].1, a.eval parts.toList[i].2) xs (by rw [List.getElem?_map, List.getElem?_eq_getElem hil]; rfl) hi⟩

include hV in
/-- append of a list of lists onto an empty one without room. -/
theorem run_append_rows {t ty e0 e : TypeId} {A : Option Addr} (ht : V.rows t = some (e0, e)) {ad : Addr} {c : Nat} {xss : List (List Int)} (hne : xss ≠ []) (hl : xss.length ≤ LIM)
    (hc : ∀ (i : Nat) xs, xss[i]? = some xs → ∃ u, w.cell? (ad.add i) = some u ∧ u.oneCell' = true) :
    ∃ v' w', ∃ vs : List Value, (Builtin.append_ #[t, t] ty #[.slice A 0 0, .slice (some ad) xss.length c]).run V.P w = .ok v' w' ∧ vs.length = xss.length ∧ w.grownBy w' none ∧
      (∃ cap, v' = .slice (some ⟨w.heap.size, 0, none⟩) xss.length cap ∧ xss.length ≤ cap ∧ w.heap.size < w'.heap.size ∧ ∀ (i : Nat) u, w.cell? (ad.add i) = some u → i < xss.length → w'.cell? ⟨w.heap.size, i, none⟩ = some u) ∧ True := by
  obtain ⟨hu, ti, zv, hti, hsz, hz, hz1, hb0, hb1⟩ := hV.rows t e0 e ht
  have hlim : xss.length ≤ 4294967296 := hl
  have hpos : 0 < xss.length := List.length_pos_iff.2 hne
  -- the values that are handed on
  let vs := (List.range xss.length).map fun i => ((w.cell? (ad.add i)).getD undef)
  have hvl : vs.length = xss.length := by simp [vs]
  have hget : ∀ (i : Nat) u, vs[i]? = some u → w.cell? (ad.add i) = some u ∧ u.oneCell' = true := fun i u hi => by
    have hlt : i < xss.length := by rw [← hvl]; exact (List.getElem?_eq_some_iff.1 hi).1
    obtain ⟨u', h1, h2⟩ := hc i _ (List.getElem?_eq_getElem hlt)
    simp only [vs, List.getElem?_map, List.getElem?_range hlt, Option.map_some, h1, Option.getD_some, Option.some.injEq] at hi
    subst hi
    exact ⟨h1, h2⟩
  obtain ⟨v', w', h1, h2, h3, h4, h5⟩ := run_append_own_at (P := V.P) w 0 t ty e0 ti zv 1 ti.bytes hu hti hz hsz rfl (by rw [oneCell_cells hz1]; rfl) (by omega) (.slice none 0 0) 0 [] (World.ownsRow_nil w 0 e0 1) ad xss.length c vs (by omega) (fun j u hj => (hget j u hj).1)
    (fun u hu' => by obtain ⟨n, hn, e⟩ := List.mem_iff_getElem.1 hu'; exact (hget n u (by rw [← e]; exact List.getElem?_eq_getElem hn)).2) (by simp only [maxLen]; omega) (by have := Nat.mul_le_mul (show 0 + xss.length ≤ 4294967296 by omega) hb1; omega) (Nat.zero_le _)
  have hnext := Go.Room.nextslicecap_le' (need := xss.length) (old := 0) hpos
  have hroom : ¬ Builtin.nextslicecap xss.length 0 * ti.bytes > 281474976710656 := by
    have := Nat.mul_le_mul hnext hb1
    have : 2 * xss.length * 24 ≤ 2 * 4294967296 * 24 := Nat.mul_le_mul_right _ (by omega)
    omega
  have heq : (Builtin.append_ #[t, t] ty #[.slice A 0 0, .slice (some ad) xss.length c]).run V.P w = (Builtin.append_ #[t, t] ty #[.slice none 0 0, .slice (some ad) xss.length c]).run V.P w := by
    cases A with
    | none => rfl
    | some a0 => simp [Builtin.append_, run_under hu, run_size hti, Builtin.lenOf, Builtin.firstCells, show ¬ xss.length = 0 by omega, typeInfo, hti, hroom, loadCells, loadCellsFrom]
  have hown := h2
  rcases hown.2 with ⟨hn, h0⟩ | ⟨b, cap, cur, hv, _, hb, hn, hm, hs, htk⟩
  · omega
  · have hbn : b = w.heap.size := by
      rcases h5 with h5 | h5
      · rw [hv] at h5; simp [Value.ownBlock] at h5
      · rw [hv] at h5; simpa [Value.ownBlock] using h5
    subst hbn
    refine ⟨v', w', vs, heq.trans h1, hvl, ⟨h3.os, h3.tape, h3.output, h3.size, fun k hk _ => h3.block k hk (by simp [Value.ownBlock])⟩, ⟨cap, by simpa using hv, by omega, (Array.getElem?_eq_some_iff.1 hb).1, fun i u hiu hil => ?_⟩, trivial⟩
    have hvi : vs[i]? = some u := by simp [vs, hil, hiu]
    have := own_cell (v := v') (xs := vs) (b := w.heap.size) (i := i) (by simpa [hvl] using h2) (by rw [hv]; rfl) u hvi
    exact this

include hV in
/-- THE LAW of operations that turn memory. -/
theorem opMut_sound (A : Ann) (h : Rel nt w0 κ0 C0 hd0 g s a w) (o : Oper) (s' : St) (hd : ∀ d, o.dst = some d → d < nt) (ho : opMut V A s o = some (true, s'))
    {next : Act → World → Prop} {Q : Exit → Act → World → Prop} (hn : ∀ g' a' w', Rel nt w0 κ0 C0 hd0 g' s' a' w' → next a' w') : o.wp V.P a w next Q := by
  obtain ⟨dst, op, type, pos, after, guard⟩ := o
  unfold opMut at ho
  split at ho
  · -- alloc
    rename_i e d hop hdst
    simp only at hop hdst
    subst hop hdst
    split at ho
    · rename_i sv hz
      cases h1 : V.one e with
      | false => rw [h1] at ho; cases ho
      | true =>
        rw [h1] at ho
        simp only [cond_true, Option.some.injEq, Prod.mk.injEq, true_and] at ho
        subst ho
        obtain ⟨i, v, hi, hzv, hone, hrep⟩ := hV.zero e sv hz
        have hr : (Instr.alloc e true (.tuple #[])).run V.P w = .ok (.pointer (some ⟨w.heap.size, 0, none⟩)) (w.alloc (.cells #[v] e)) := by
          simp [Instr.alloc, zeroValue, typeInfo, hi, hzv, newVar, newRow, oneCell_cells hone]
        refine wp_value (v := .pointer (some ⟨w.heap.size, 0, none⟩)) (w' := w.alloc (.cells #[v] e)) (by simp [execOp, hr]) (hn _ _ _ ((h.alloc (d + 1000) (by omega) (.pointer (some ⟨w.heap.size, 0, none⟩)) (.cells e [sv]) (.cells #[v] e) ?_).put d (hd d rfl) _ _ ?_))
        · exact ⟨w.heap.size, #[v], by simp [G.upd], by simp [G.upd], heap_alloc_new w _, rfl, fun k u hk => by
            cases k with
            | zero => simp only [List.getElem?_cons_zero, Option.some.injEq] at hk; subst hk; exact hrep _ _
            | succ k => simp at hk⟩
        · exact ⟨w.heap.size, by simp [G.upd], rfl⟩
    · split at ho
      · rename_i zs hz
        simp only [Option.some.injEq, Prod.mk.injEq, true_and] at ho
        subst ho
        obtain ⟨i, zc, hi, hzv, hzs, hzr, _⟩ := hV.agg e zs hz
        have hr : (Instr.alloc e true (.tuple #[])).run V.P w = .ok (.pointer (some ⟨w.heap.size, 0, none⟩)) (w.alloc (.cells zc e)) := by
          simp [Instr.alloc, zeroValue, typeInfo, hi, hzv, newVar, newRow, Value.cells]
        refine wp_value (v := .pointer (some ⟨w.heap.size, 0, none⟩)) (w' := w.alloc (.cells zc e)) (by simp [execOp, hr]) (hn _ _ _ ((h.alloc (d + 1000) (by omega) (.pointer (some ⟨w.heap.size, 0, none⟩)) (.cells e (zs.map (SV.killD (d + 1000)))) (.cells zc e) ?_).put d (hd d rfl) _ _ ?_))
        · refine ⟨w.heap.size, zc, by simp [G.upd], by simp [G.upd], heap_alloc_new w _, by simpa using hzs, fun k u hk => ?_⟩
          rw [List.getElem?_map] at hk
          cases hq : zs[k]? with
          | none => rw [hq] at hk; cases hk
          | some z =>
            rw [hq] at hk
            cases hk
            show rep _ _ (SV.killD (d + 1000) z) _
            unfold SV.killD
            cases z.hdDep (d + 1000) with
            | true => trivial
            | false => exact hzr k z hq _ _
        · exact ⟨w.heap.size, by simp [G.upd], rfl⟩
      · cases ho
  · -- box
    rename_i e x d hop hdst
    simp only at hop hdst
    subst hop hdst
    simp only at ho
    split at ho
    · rename_i vs hagg
      simp only [Option.some.injEq, Prod.mk.injEq, true_and] at ho
      subst ho
      have hx := ev_rep h x
      rw [hagg] at hx
      obtain ⟨xs, k1, k2, k3⟩ := hx
      have hr : (Instr.box e (a.eval x)).run V.P w = .ok (.pointer (some ⟨w.heap.size, 0, none⟩)) (w.alloc (.cells xs e)) := by
        simp [Instr.box, newVar, newRow, k1, Value.cells]
      refine wp_value (v := .pointer (some ⟨w.heap.size, 0, none⟩)) (w' := w.alloc (.cells xs e)) (by simp [execOp, hr]) (hn _ _ _ ((h.alloc (d + 1000) (by omega) (.pointer (some ⟨w.heap.size, 0, none⟩)) (.cells e (vs.map (SV.killD (d + 1000)))) (.cells xs e) ?_).put d (hd d rfl) _ _ ?_))
      · refine ⟨w.heap.size, xs, by simp [G.upd], by simp [G.upd], heap_alloc_new w _, by simpa using k2, fun k u hk => ?_⟩
        rw [List.getElem?_map] at hk
        cases hq : vs[k]? with
        | none => rw [hq] at hk; cases hk
        | some z =>
          rw [hq] at hk
          cases hk
          exact rep_killD (h.fr_alloc (d + 1000) _ _) _ _ (k3 k z hq)
      · exact ⟨w.heap.size, by simp [G.upd], rfl⟩
    cases h1 : (V.one e && oneSV (SV.killD (d + 1000) (evs s x))) with
    | false => rw [h1] at ho; cases ho
    | true =>
      rw [h1] at ho
      simp only [cond_true, Option.some.injEq, Prod.mk.injEq, true_and] at ho
      subst ho
      simp only [Bool.and_eq_true] at h1
      have hx := evs_rep h x
      have hone : (a.eval x).oneCell' = true := by
        have h2 := h1.2
        unfold SV.killD at h2
        cases hd' : (evs s x).hdDep (d + 1000) with
        | true => rw [hd'] at h2; cases h2
        | false => rw [hd'] at h2; exact one_of_rep h2 hx
      have hr : (Instr.box e (a.eval x)).run V.P w = .ok (.pointer (some ⟨w.heap.size, 0, none⟩)) (w.alloc (.cells #[a.eval x] e)) := by
        simp [Instr.box, newVar, newRow, oneCell_cells hone]
      refine wp_value (v := .pointer (some ⟨w.heap.size, 0, none⟩)) (w' := w.alloc (.cells #[a.eval x] e)) (by simp [execOp, hr]) (hn _ _ _ ((h.alloc (d + 1000) (by omega) (.pointer (some ⟨w.heap.size, 0, none⟩)) (.cells e [SV.killD (d + 1000) (evs s x)]) (.cells #[a.eval x] e) ?_).put d (hd d rfl) _ _ ?_))
      · refine ⟨w.heap.size, #[a.eval x], by simp [G.upd], by simp [G.upd], heap_alloc_new w _, rfl, fun k u hk => ?_⟩
        cases k with
        | zero =>
          simp only [List.getElem?_cons_zero, Option.some.injEq] at hk
          subst hk
          exact rep_killD (h.fr_alloc (d + 1000) _ _) _ _ hx
        | succ k => simp at hk
      · exact ⟨w.heap.size, by simp [G.upd], rfl⟩
  · -- buildSlice
    rename_i t len parts d hop hdst
    simp only at hop hdst
    subst hop hdst
    split at ho
    · rename_i e E ht
      split at ho
      · rename_i xs hxs
        cases h1 : (Nat.beq len xs.length && Nat.ble len 1000000) with
        | false => rw [h1] at ho; cases ho
        | true =>
          rw [h1] at ho
          simp only [cond_true, Option.some.injEq, Prod.mk.injEq, true_and] at ho
          subst ho
          simp only [Bool.and_eq_true] at h1
          have hl : len = xs.length := Nat.eq_of_beq_eq_true h1.1
          have hl2 : len ≤ 1000000 := Nat.le_of_ble_eq_true h1.2
          obtain ⟨hr, hown⟩ := run_buildSlice' hV h ht hxs hl hl2
          refine wp_value (v := .slice (some ⟨w.heap.size, 0, none⟩) len len) (w' := w.alloc (.cells (xs.map E.enc).toArray e)) (by simp only [execOp]; simp [hr]) (hn _ _ _ ((h.alloc (d + 1000) (by omega) (.slice (some ⟨w.heap.size, 0, none⟩) len len) (.arr e E xs) _ ?_).put d (hd d rfl) _ _ ?_))
          · refine ⟨by simp only [G.upd, if_true]; exact hown, fun b hb => ?_⟩
            simp only [G.upd, if_true, Value.ownBlock, Option.some.injEq] at hb
            simp [G.upd, ← hb]
          · exact ⟨by simp [G.upd], rfl⟩
      · cases ho
    · split at ho
      · rename_i e k ht
        split at ho
        · rename_i ps hps
          cases h1 : (Nat.beq k 2 && Nat.beq len ps.length && Nat.ble len 1000000 && Nat.blt 0 len) with
          | false => rw [h1] at ho; cases ho
          | true =>
            rw [h1] at ho
            simp only [cond_true, Option.some.injEq, Prod.mk.injEq, true_and] at ho
            subst ho
            simp only [Bool.and_eq_true] at h1
            obtain ⟨⟨⟨hk2, hl⟩, hl2⟩, hl3⟩ := h1
            have hk2 := Nat.eq_of_beq_eq_true hk2
            have hl := Nat.eq_of_beq_eq_true hl
            have hl2 := Nat.le_of_ble_eq_true hl2
            have hl3 : 0 < len := by simpa using hl3
            subst hk2
            obtain ⟨cells, hr, hcells⟩ := run_buildTab hV h ht hps hl hl2 hl3
            refine wp_value (v := .slice (some ⟨w.heap.size, 0, none⟩) len len) (w' := w.alloc (.cells cells e)) (by simp only [execOp]; simp [hr]) (hn _ _ _ ((h.share (.cells cells e)).put d (hd d rfl) _ _ ?_))
            have hfl : (flatI ps).length / 2 = len := by rw [flatI_length, hl]; omega
            refine ⟨w.heap.size, len, by rw [hfl], by rw [hfl]; exact Nat.le_refl _, ⟨false, by simp, by simp⟩, fun i u hi => ?_⟩
            rw [cell_of_row _ _ i cells e (0, 0) (heap_alloc_new w _)]
            exact hcells i u hi
        · cases ho
      · rename_i e0 e _ ht
        split at ho
        · rename_i l xss hxs
          cases h1 : (Nat.beq len xss.length && Nat.ble len 1000000) with
          | false => rw [h1] at ho; cases ho
          | true =>
            rw [h1] at ho
            simp only [cond_true, Option.some.injEq, Prod.mk.injEq, true_and] at ho
            subst ho
            simp only [Bool.and_eq_true] at h1
            have hl := Nat.eq_of_beq_eq_true h1.1
            have hl2 := Nat.le_of_ble_eq_true h1.2
            obtain ⟨vs, hvl, hr, hvs⟩ := run_buildRows hV h ht hxs hl hl2
            have hRel := h.share (.cells vs.toArray e0)
            refine wp_value (v := .slice (some ⟨w.heap.size, 0, none⟩) len len) (w' := w.alloc (.cells vs.toArray e0)) (by simp only [execOp]; simp [hr]) (hn _ _ _ (hRel.put d (hd d rfl) _ _ ?_))
            refine ⟨some ⟨w.heap.size, 0, none⟩, len, by rw [hl], by omega, fun hx => by rw [hl, hx]; rfl, fun _ => ⟨w.heap.size, 0, rfl, ⟨false, by simp, by simp⟩, fun i xs hi => ?_⟩⟩
            obtain ⟨v, hv, hrep⟩ := hvs i xs hi
            refine ⟨v, ?_, rowRep_keep (fun b m _ hb => ?_) hrep⟩
            · rw [Nat.zero_add, cell_of_row _ _ i vs.toArray e0 (0, 0) (heap_alloc_new w _)]
              simpa using hv
            · have hlt := h.ok.lt (b := b) (by rw [hb]; simp)
              exact ⟨by show (if b = w.heap.size then _ else _) = _; rw [if_neg (by omega)]; exact hb, heap_alloc_old w _ b hlt⟩
        · cases ho
      · cases ho
  · -- makeSlice
    rename_i t l c d hop hdst
    simp only at hop hdst
    subst hop hdst
    split at ho
    · rename_i e E k n k' m ht hl hc
      simp only [Option.some.injEq, Prod.mk.injEq, Bool.and_eq_true, decide_eq_true_eq] at ho
      obtain ⟨⟨⟨h0, h1⟩, h2⟩, rfl⟩ := ho
      have e1 : a.eval l = .int k n := evs_of h hl
      have e2 : a.eval c = .int k' m := evs_of h hc
      obtain ⟨hu, i, hi, hsz, hz, hb0, hb1, _⟩ := hV.slice t e E ht
      have hr := run_make (P := V.P) w t e i (E.enc E.zero) hu hi hz k k' n m h0 h1 (by
        have hb1' : (i.bytes : Int) ≤ 24 := by omega
        have : (i.bytes : Int) * m ≤ 24 * 4294967296 := Int.mul_le_mul hb1' h2 (by omega) (by omega)
        omega) (by omega)
      rw [oneCell_cells (enc_one E _), hsz, Nat.mul_one] at hr
      have hown : (w.alloc (.cells (madeCells #[E.enc E.zero] m.toNat) e)).ownsRow 0 e 1 (.slice (some ⟨w.heap.size, 0, none⟩) n.toNat m.toNat) (List.replicate n.toNat E.zero).length ((List.replicate n.toNat E.zero).map E.enc) := by
        refine ⟨by simp, .inr ⟨w.heap.size, m.toNat, madeCells #[E.enc E.zero] m.toNat, by simp, Nat.zero_le _, heap_alloc_new w _, by simp; omega, by simp only [maxLen]; omega, by rw [size_madeCells]; omega, ?_⟩⟩
        rw [toList_madeCells_one, List.take_replicate, List.map_replicate, List.length_replicate]
        congr 1
        omega
      refine wp_value (v := .slice (some ⟨w.heap.size, 0, none⟩) n.toNat m.toNat) (w' := w.alloc (.cells (madeCells #[E.enc E.zero] m.toNat) e)) (by simp only [execOp, e1, e2]; simp [hr]) (hn _ _ _ ((h.alloc (d + 1000) (by omega) (.slice (some ⟨w.heap.size, 0, none⟩) n.toNat m.toNat) (.arr e E (List.replicate n.toNat E.zero)) _ ?_).put d (hd d rfl) _ _ ?_))
      · refine ⟨by simp only [G.upd, if_true]; exact hown, fun b hb => ?_⟩
        simp only [G.upd, if_true, Value.ownBlock, Option.some.injEq] at hb
        simp [G.upd, ← hb]
      · exact ⟨by simp [G.upd], rfl⟩
    · cases ho
  · -- store
    rename_i t x y hop hdst
    simp only at hop hdst
    subst hop hdst
    split at ho
    · rename_i j i hx
      obtain ⟨b, e1, e2⟩ := evs_of h hx
      split at ho
      · rename_i ty cs hH
        cases h1 : (V.one t && Nat.blt i cs.length && oneSV (evs s y)) with
        | false =>
          rw [h1] at ho
          simp only [cond_false] at ho
          split at ho
          · rename_i vs zs hy hz
            cases h2 : (Nat.beq i 0 && Nat.beq vs.length cs.length && Nat.beq zs.length cs.length && vs.all oneSV) with
            | false => rw [h2] at ho; cases ho
            | true =>
              rw [h2] at ho
              simp only [cond_true, Option.some.injEq, Prod.mk.injEq, true_and] at ho
              subst ho
              simp only [Bool.and_eq_true] at h2
              obtain ⟨⟨⟨hi0, hvl⟩, hzl⟩, hall⟩ := h2
              have hi0 := Nat.eq_of_beq_eq_true hi0
              have hvl := Nat.eq_of_beq_eq_true hvl
              have hzl := Nat.eq_of_beq_eq_true hzl
              subst hi0
              obtain ⟨b', us, k1, k2, k3, k4, k5⟩ := h.ok.obs j _ hH
              rw [e1] at k1
              cases k1
              have hrepA : repA g w (.agg vs) (a.eval y) := hy ▸ ev_rep h y
              obtain ⟨xs, x1, x2, x3⟩ := hrepA
              obtain ⟨ti, hti, hsz⟩ := hV.aggSize t zs hz
              have hone : ∀ v ∈ xs.toList, v.oneCell' = true := fun v hv => by
                obtain ⟨n, hn', hv'⟩ := List.mem_iff_getElem.1 hv
                have hnl : n < xs.size := by simpa using hn'
                have hvs : n < vs.length := by omega
                have h5 := x3 n vs[n] (List.getElem?_eq_getElem hvs)
                have h6 : oneSV vs[n] = true := List.all_eq_true.1 hall _ (List.getElem_mem hvs)
                have h7 := one_of_rep h6 h5
                rw [Array.getD_eq_getD_getElem?, Array.getElem?_eq_getElem hnl] at h7
                rw [← hv']
                simpa using h7
              have hst := run_storeCells_at (P := V.P) b 0 ty xs.toList 0 us w k3 (by simp; omega) hone
              have hxs : (us.toList.take (0 + 0) ++ xs.toList ++ us.toList.drop (0 + 0 + xs.toList.length)).toArray = xs := by
                have : us.toList.drop (0 + 0 + xs.toList.length) = [] := List.drop_eq_nil_of_le (by simp; omega)
                rw [this]; simp
              rw [hxs] at hst
              have hr : (Instr.storeAt t (.pointer (some ⟨b, 0, none⟩)) (.agg xs)).run V.P w = .ok () (w.setRow b xs) := by
                simp only [Instr.storeAt, Instr.sureAddr, storeVar, Value.cells, Sem.run_bind, Sem.run_pure, Result.andThen_ok, run_size hti, hsz]
                have hsame : ¬ xs.size ≠ zs.length := by omega
                simp only [hsame, if_false]
                exact hst
              have hrow : (w.setRow b xs).heap[b]? = some (.cells xs ty (0, 0)) := setRow_heap w b us xs ty _ k3
              refine wp_skip' (w' := w.setRow b xs) (by simp only [execOp, e2, x1]; simp [hr]) (hn g _ _ (h.poke j _ (fun _ _ _ e => by cases e) rfl rfl rfl (by simp) (fun k hk => setRow_other w b k _ (fun e => hk (e ▸ k2))) ?_))
              have hFr : Fr g g w (w.setRow b xs) (· = j) (fun _ => False) :=
                ⟨fun k l hk => ⟨hk, setRow_other w b k _ (fun e => by subst e; rw [k2] at hk; cases hk)⟩, fun k m hk hm => ⟨hk, setRow_other w b k _ (fun e => by subst e; rw [k2] at hk; cases hk; exact hm rfl)⟩, fun _ _ => rfl⟩
              refine ⟨b, xs, e1, k2, hrow, by simp [x2], fun k u hk => ?_⟩
              rw [List.getElem?_map] at hk
              cases hq : vs[k]? with
              | none => rw [hq] at hk; cases hk
              | some z =>
                rw [hq] at hk
                cases hk
                exact rep_killH hFr (fun _ => id) z _ (x3 k z hq)
          · cases ho
        | true =>
          rw [h1] at ho
          simp only [cond_true, Option.some.injEq, Prod.mk.injEq, true_and] at ho
          subst ho
          simp only [Bool.and_eq_true] at h1
          have hlt : i < cs.length := by simpa using h1.1.2
          obtain ⟨_, ti, hi, hsz⟩ := hV.one t h1.1.1
          obtain ⟨b', vs, k1, k2, k3, k4, k5⟩ := h.ok.obs j _ hH
          rw [e1] at k1
          cases k1
          have hvs : i < vs.size := by rw [k4]; exact hlt
          have hy := evs_rep h y
          have hone := one_of_rep h1.2 hy
          have hc : w.cell? ⟨b, i, none⟩ = some vs[i] := by
            rw [cell_of_row w b i vs ty (0, 0) k3]
            exact Array.getElem?_eq_getElem hvs
          have hf : w.frozen? ⟨b, i, none⟩ = false := by simp [World.frozen?, k3]
          have hr := run_store1 (P := V.P) hi hsz hc hf hone
          refine wp_skip' (w' := w.setCell ⟨b, i, none⟩ (a.eval y)) (by simp only [execOp, e2]; simp [hr]) (hn g _ _ (h.poke j _ (fun _ _ _ e => by cases e) rfl rfl rfl setCell_size (fun k hk => setCell_other (fun e => hk (e ▸ k2))) ?_))
          have hFr : Fr g g w (w.setCell ⟨b, i, none⟩ (a.eval y)) (· = j) (fun _ => False) :=
            ⟨fun k l hk => ⟨hk, setCell_other (fun e => by subst e; rw [k2] at hk; cases hk)⟩, fun k m hk hm => ⟨hk, setCell_other (fun e => by subst e; rw [k2] at hk; cases hk; exact hm rfl)⟩, fun _ _ => rfl⟩
          refine ⟨b, vs.setIfInBounds i (a.eval y), e1, k2, setCell_heap k3, by simp [k4], fun k u hk => ?_⟩
          rw [List.getElem?_map] at hk
          cases hq : (cs.set i (evs s y))[k]? with
          | none => rw [hq] at hk; cases hk
          | some z =>
            rw [hq] at hk
            cases hk
            refine rep_killH hFr (fun _ => id) z _ ?_
            rw [Array.getD_eq_getD_getElem?, Array.getElem?_setIfInBounds]
            rw [List.getElem?_set] at hq
            by_cases hik : i = k
            · subst hik
              simp only [if_true, hlt] at hq
              cases hq
              simp [hvs]
              exact hy
            · rw [if_neg hik] at hq
              simp only [hik, if_false]
              have := k5 k z hq
              rw [Array.getD_eq_getD_getElem?] at this
              exact this
      · cases ho
    · rename_i j e' E' xs i hx
      obtain ⟨i0, i1, b, e1, e2, e3, e4⟩ := evs_of h hx
      split at ho
      · rename_i e E ys hH
        split at ho
        · rename_i u hu
          cases h1 : V.one t with
          | false => rw [h1] at ho; cases ho
          | true =>
            rw [h1] at ho
            simp only [cond_true, Option.some.injEq, Prod.mk.injEq, true_and] at ho
            subst ho
            obtain ⟨_, ti, hi, hsz⟩ := hV.one t h1
            have hy := evs_rep h y
            have hyv : a.eval y = E.enc u := get_rep hu hy
            obtain ⟨o1, o2⟩ := h.ok.obs j _ hH
            -- both readings of the place are one
            have hlen : ys.length = xs.length := by
              rcases o1.2 with ⟨n1, n2⟩ | ⟨b1, c1, r1, v1, _⟩
              · rw [n1] at e1; cases e1
              · rcases e4.2 with ⟨m1, m2⟩ | ⟨b2, c2, r2, v2, _⟩
                · rw [m1] at e1; cases e1
                · rw [v1] at v2; injection v2
            have hlt : i.toNat < ys.length := by omega
            have o1' : w.ownsRow 0 e 1 (g.hd j) (ys.map E.enc).length (ys.map E.enc) := by rw [List.length_map]; exact o1
            have hc := own_cell o1' e1 _ (getD_enc E ys i.toNat hlt)
            rcases o1.2 with ⟨n1, n2⟩ | ⟨b1, c1, cur, v1, _, hb1, hn1, hm1, hs1, ht1⟩
            · rw [n1] at e1; cases e1
            · have hbb : b1 = b := by rw [v1] at e1; simpa [Value.ownBlock] using e1
              subst hbb
              have hf : w.frozen? ⟨b1, i.toNat, none⟩ = false := by simp [World.frozen?, hb1]
              have hr := run_store1 (P := V.P) hi hsz hc hf (enc_one E u)
              refine wp_skip' (w' := w.setCell ⟨b1, i.toNat, none⟩ (E.enc u)) (by simp only [execOp, e3, hyv]; simp [hr]) (hn g _ _ (h.poke j _ (fun _ _ _ _ => h.notC hH) rfl rfl rfl setCell_size (fun k hk => setCell_other (fun e => hk (e ▸ e2))) ?_))
              refine ⟨⟨by simp, .inr ⟨b1, c1, cur.setIfInBounds i.toNat (E.enc u), by rw [v1]; simp, Nat.zero_le _, setCell_heap hb1, by simpa using hn1, hm1, by simpa using hs1, ?_⟩⟩, o2⟩
              rw [Array.toList_setIfInBounds, List.length_set, List.map_set, ← ht1, List.take_set]
        · cases ho
      · cases ho
    · cases ho
  · -- slice
    rename_i t x lo hi d hop hdst
    simp only at hop hdst
    subst hop hdst
    split at ho
    · rename_i j hx
      have e1 : a.eval x = g.hd j := (evs_of h hx).1
      split at ho
      · rename_i e E xs hH
        split at ho
        · rename_i e' E' p q hs hp hq
          cases he : Nat.beq e e' with
          | false => rw [he] at ho; cases ho
          | true =>
            rw [he] at ho
            simp only [cond_true] at ho
            obtain ⟨hu, ti, hinfo, hsz, _⟩ := hV.slice t e' E' hs
            obtain ⟨o1, o2⟩ := h.ok.obs j _ hH
            have hsl : ∃ A c, g.hd j = .slice A xs.length c ∧ xs.length ≤ c ∧ (A = none → xs.length = 0 ∧ c = 0) := by
              rcases o1.2 with ⟨n1, n2⟩ | ⟨b1, c1, cur, v1, _, hb1, hn1, _⟩
              · exact ⟨none, 0, by rw [n1, n2], by omega, fun _ => ⟨n2, rfl⟩⟩
              · exact ⟨_, c1, v1, hn1, fun e => by cases e⟩
            obtain ⟨A', c, hv, hle, hnil⟩ := hsl
            have hrun : ∀ (p q : Int), bnd s 0 lo = some p → bnd s (xs.length : Int) hi = some q → 0 ≤ p → p ≤ q → q ≤ (xs.length : Int) →
                (execOp a.eval { dst := some d, op := .slice t x lo hi none, type := type, pos := pos, after := after, guard := guard }).run V.P w = .ok (.value (.slice (if c = p.toNat then A' else A'.map (·.add (p.toNat * 1))) (q.toNat - p.toNat) (c - p.toNat))) w := by
              intro p q hp hq h0 h1 h2
              have hb := run_bounds (P := V.P) h true xs.length c lo hi p q hp hq h0 h1 h2 hle
              simp only [execOp, e1, hv]
              simp only [Sem.run_bind, Instr.sliceAt, run_under hu, Result.andThen_ok, Instr.slice, Option.map_none]
              simp only [Sem.run_bind, Sem.run_pure, hb, Result.andThen_ok, run_size hinfo, hsz]
            cases hpre : A.pre d with
            | true =>
              rw [hpre] at ho
              simp only [cond_true, Option.some.injEq, Prod.mk.injEq, Bool.and_eq_true, decide_eq_true_eq] at ho
              obtain ⟨⟨⟨hp0, h0⟩, h2⟩, rfl⟩ := ho
              subst hp0
              have hr := hrun 0 q hp hq (Int.le_refl _) h0 h2
              simp only [Int.toNat_zero, Nat.zero_mul, Nat.sub_zero] at hr
              have hadd : (if c = 0 then A' else A'.map (·.add 0)) = A' := by
                split
                · rfl
                · cases A' with
                  | none => rfl
                  | some ad => simp [Addr.add]
              rw [hadd] at hr
              have hlen : (xs.take q.toNat).length = q.toNat := by rw [List.length_take, Nat.min_eq_left (by omega)]
              have hob : w.ownsRow 0 e 1 (.slice A' q.toNat c) (xs.take q.toNat).length ((xs.take q.toNat).map E.enc) := by
                refine ⟨by simp, ?_⟩
                rcases o1.2 with ⟨n1, n2⟩ | ⟨b1, c1, cur, v1, _, hb1, hn1, hm1, hs1, ht1⟩
                · rw [n1] at hv
                  injection hv with hA hl hc
                  left
                  refine ⟨by rw [← hA, ← hc, show q.toNat = 0 by omega], by rw [hlen]; omega⟩
                · rw [v1] at hv
                  injection hv with hA hl hc
                  subst hA
                  subst hc
                  right
                  refine ⟨b1, c1, cur, by rw [hlen], Nat.zero_le _, hb1, by rw [hlen]; omega, hm1, hs1, ?_⟩
                  rw [hlen, List.map_take, ← ht1, Nat.mul_one, Nat.mul_one, List.take_take, Nat.min_eq_left (by omega)]
              refine wp_value hr (hn ⟨g.κ, fun i => if i = j then .slice A' q.toNat c else g.hd i⟩ _ _ ((h.turn (g' := ⟨g.κ, fun i => if i = j then .slice A' q.toNat c else g.hd i⟩) j (h.notC hH) (.arr e E (xs.take q.toNat)) rfl rfl rfl (Nat.le_refl _) (fun _ _ _ => rfl) (fun _ _ => rfl) h.ok.fresh (fun i hi => by simp [hi]) ?_).put d (hd d rfl) _ _ ?_))
              · refine ⟨by simp only [if_true]; exact hob, fun b hb => ?_⟩
                simp only [if_true] at hb
                refine o2 b ?_
                rw [hv]
                cases A' with
                | none => cases hb
                | some ad => exact hb
              · exact ⟨by simp, rfl⟩
            | false =>
              rw [hpre] at ho
              simp only [cond_false, Option.some.injEq, Prod.mk.injEq, Bool.and_eq_true, decide_eq_true_eq] at ho
              obtain ⟨⟨⟨h0, h1⟩, h2⟩, rfl⟩ := ho
              have hr := hrun p q hp hq h0 h1 h2
              refine wp_value hr (hn _ _ _ ((h.freeze j hH).put d (hd d rfl) _ _ ?_))
              obtain ⟨A2, c2, f1, f2, f3⟩ := own_shared (κ := (g.freeze j).κ) (hd := g.hd) o1 (l := false) (m := false) (by simp) fun b hb => by simp [G.freeze, o2 b hb]
              rw [hv] at f1
              injection f1 with hA hl hc
              subst hA
              subst hc
              have hlen : ((xs.take q.toNat).drop p.toNat).length = q.toNat - p.toNat := by
                rw [List.length_drop, List.length_take, Nat.min_eq_left (by omega)]
              refine ⟨_, c - p.toNat, by rw [hlen], by rw [hlen]; omega, fun hne => ?_⟩
              have hlt : p.toNat < q.toNat := by
                have : ((xs.take q.toNat).drop p.toNat).length ≠ 0 := fun hz => hne (List.eq_nil_of_length_eq_zero hz)
                omega
              have hxne : xs ≠ [] := fun hz => by subst hz; simp at h2; omega
              obtain ⟨b, o, rfl, hκ, hc⟩ := f3 hxne
              rw [if_neg (by omega)]
              refine ⟨b, o + p.toNat, by simp [add_lit'], hκ, fun i u hi => ?_⟩
              rw [List.getElem?_drop] at hi
              have hi' : xs[p.toNat + i]? = some u := by
                rw [List.getElem?_take] at hi
                split at hi
                · exact hi
                · cases hi
              rw [Nat.add_assoc]
              exact hc _ u hi'
        · cases ho
      · cases ho
    · cases ho
  · -- append
    rename_i args argTypes d hop hdst
    simp only at hop hdst
    subst hop hdst
    split at ho
    · rename_i x y t t' hargs hts
      have hargs' : args = #[x, y] := by rw [← Array.toList_inj]; exact hargs
      subst hargs'
      cases htt : Nat.beq t t' with
      | false => rw [htt] at ho; cases ho
      | true =>
        rw [htt] at ho
        simp only [cond_true] at ho
        have htt' : t = t' := Nat.eq_of_beq_eq_true htt
        subst htt'
        have hts' : argTypes = #[t, t] := by rw [← Array.toList_inj]; exact hts
        subst hts'
        split at ho
        · rename_i l e xss0 ht hx
          obtain ⟨A0, c0, e1, _, hc0, _⟩ := evs_of h hx
          split at ho
          · rename_i e0 e1' l' e2 yss hrt hy
            cases hcond : (Nat.beq e e1' && Nat.beq e e2) with
            | false => rw [hcond] at ho; cases ho
            | true =>
              rw [hcond] at ho
              simp only [cond_true, Option.some.injEq, Prod.mk.injEq] at ho
              obtain ⟨hc2, rfl⟩ := ho
              simp only [Bool.and_eq_true, Bool.not_eq_true'] at hcond hc2
              have hx0 : xss0 = [] := by cases xss0 with | nil => rfl | cons _ _ => cases hc2.1
              subst hx0
              have hc0 := hc0 rfl
              subst hc0
              have hyne : yss ≠ [] := fun e => by subst e; cases hc2.2.1
              have hlim := Nat.le_of_ble_eq_true hc2.2.2
              have he2 : e = e2 := Nat.eq_of_beq_eq_true hcond.2
              subst he2
              obtain ⟨A1, c1, f1, f2, _, f3⟩ := evs_of h hy
              obtain ⟨b1, o1, rfl, hk1, hcells⟩ := f3 hyne
              obtain ⟨v', w', vs, r1, r2, r3, r4, r5⟩ := run_append_rows hV (ty := type) (A := A0) hrt (ad := ⟨b1, o1, none⟩) (c := c1) (xss := yss) hyne hlim (fun i ys hi => by
                obtain ⟨u, hu, hr⟩ := hcells i ys hi
                exact ⟨u, by rw [add_lit']; exact hu, by obtain ⟨A2, c2, e, _⟩ := hr; rw [e]; rfl⟩)
              have hRel := h.shareAt r3
              refine wp_value (v := v') (w' := w') (by
                have e1' : a.eval x = .slice A0 0 0 := e1
                have f1' : a.eval y = .slice (some ⟨b1, o1, none⟩) yss.length c1 := f1
                simp [execOp, resolve, invoke, builtin, e1', f1', r1]) (hn _ _ _ (hRel.put d (hd d rfl) _ _ ?_))
              obtain ⟨cap, hv', hcap, hb', hvs⟩ := r4
              have hbl : w.heap.size < w'.heap.size := hb'
              refine ⟨some ⟨w.heap.size, 0, none⟩, cap, hv', hcap, fun e => absurd e hyne, fun _ => ⟨w.heap.size, 0, rfl, ⟨false, by simp, by simp [hbl]⟩, fun i ys hi => ?_⟩⟩
              obtain ⟨u, hu, hr⟩ := hcells i ys hi
              refine ⟨u, ?_, ?_⟩
              · rw [Nat.zero_add]
                exact hvs i u (by rw [add_lit']; exact hu) (List.getElem?_eq_some_iff.1 hi).1
              · refine rowRep_keep (fun b m _ hb => ?_) hr
                have hlt := h.ok.lt (b := b) (by rw [hb]; simp)
                exact ⟨by show (if b = w.heap.size ∧ _ then _ else _) = _; rw [if_neg (by omega)]; exact hb, r3.block b hlt (by simp)⟩
          · cases ho
        · rename_i e E j ht hx
          have e1 : a.eval x = g.hd j := (evs_of h hx).1
          split at ho
          · rename_i e' E' xs hH
            split at ho
            · rename_i ys hy
              cases he : Nat.beq e e' with
              | false => rw [he] at ho; cases ho
              | true =>
                rw [he] at ho
                simp only [cond_true, Option.some.injEq, Prod.mk.injEq] at ho
                obtain ⟨hl, rfl⟩ := ho
                have hl' := Nat.le_of_ble_eq_true hl
                have he' : e = e' := Nat.eq_of_beq_eq_true he
                subst he'
                obtain ⟨o1, o2⟩ := h.ok.obs j _ hH
                obtain ⟨A', c, f1, f2⟩ := src_rep h hy (evs_rep h y)
                obtain ⟨v', w', r1, r2, r3, r4⟩ := run_append_any hV (ty := type) ht o1 f2 (c := c) hl'
                refine wp_value (v := v') (w' := w') (by simp [execOp, resolve, invoke, builtin, e1, f1, r1]) (hn _ _ _ ((h.append (h.notC hH) o2 r2 r3 r4).put d (hd d rfl) _ _ ?_))
                exact ⟨by simp, own_one r2⟩
            · cases ho
          · cases ho
        · rename_i e E ht hx
          have e1 : a.eval x = .slice none 0 0 := evs_of h hx
          split at ho
          · rename_i ys hy
            simp only [Option.some.injEq, Prod.mk.injEq] at ho
            obtain ⟨hl, rfl⟩ := ho
            have hl' := Nat.le_of_ble_eq_true hl
            obtain ⟨A', c, f1, f2⟩ := src_rep h hy (evs_rep h y)
            obtain ⟨v', w', r1, r2, r3, r4⟩ := run_append_any hV (ty := type) ht (v := .slice none 0 0) (xs := ([] : List E.T)) (World.ownsRow_nil w 0 e 1) f2 (c := c) (by simpa using hl')
            refine wp_value (v := v') (w' := w') (by simp [execOp, resolve, invoke, builtin, e1, f1, r1]) (hn _ _ _ ((h.append (j := d + 1000) (fun hc => by have := (h.ok.c0 _ hc).2.1; omega) (fun b hb => by cases hb) r2 r3 r4).put d (hd d rfl) _ _ ?_))
            exact ⟨by simp, own_one r2⟩
          · cases ho
        · cases ho
    · cases ho
  · -- move
    rename_i x d hop hdst
    simp only at hop hdst
    subst hop hdst
    split at ho
    · rename_i hx
      have e1 : a.eval x = .slice none 0 0 := evs_of h hx
      split at ho
      · rename_i e E ht
        simp only [Option.some.injEq, Prod.mk.injEq, true_and] at ho
        subst ho
        refine wp_value (v := .slice none 0 0) (w' := w) (by simp [execOp, e1]) (hn _ _ _ ((h.nilArr d e E).put d (hd d rfl) _ _ ?_))
        exact ⟨by simp, rfl⟩
      · cases ho
    · cases ho
  · -- assign
    rename_i x d hop hdst
    simp only at hop hdst
    subst hop hdst
    split at ho
    · rename_i hx
      have e1 : a.eval x = .slice none 0 0 := evs_of h hx
      split at ho
      · rename_i e E ht
        simp only [Option.some.injEq, Prod.mk.injEq, true_and] at ho
        subst ho
        refine wp_value (v := .slice none 0 0) (w' := w) (by simp [execOp, e1]) (hn _ _ _ ((h.nilArr d e E).put d (hd d rfl) _ _ ?_))
        exact ⟨by simp, rfl⟩
      · cases ho
    · cases ho
  · cases ho

end

end Go.Proofs.Ytmmadcccjicdcaa.E
