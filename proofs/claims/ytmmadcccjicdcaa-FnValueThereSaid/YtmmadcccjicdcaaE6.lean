/- The abstract run of operations, regions and code tells of the machine's. -/
import Derived.Test.YtmmadcccjicdcaaE5
import Derived.LoopN
namespace Go.Proofs.Ytmmadcccjicdcaa.E
set_option linter.unusedVariables false
set_option linter.unusedSimpArgs false

section
variable {nt : Nat} {w0 : World} {κ0 : Nat → Cls} {C0 : Nat → Prop} {hd0 : Nat → Value} {g : G} {s : St} {a : Act} {w : World}

theorem bv_mem (mode : Bool) : ∀ (args : List SV) (j : Nat), SV.slo j ∈ args → mode = false → j ∈ bvIds mode args
  | [], j, h, _ => by cases h
  | v :: r, j, h, hm => by
    subst hm
    rcases List.mem_cons.1 h with rfl | h
    · simp [bvIds]
    · have ih := bv_mem false r j h rfl
      cases v <;> simp [bvIds, ih]

theorem ob_inner (h : Rel nt w0 κ0 C0 hd0 g s a w) (ids bv : List Nat) (hnd : nodupB ids = true) {k j : Nat} (hk : ids[k]? = some j) {ob : Ob} (hj : look s.H j = some ob) :
    obRep (g.inner ids bv) w k (ob.map (SV.ren fun j => pos ids j 0)) := by
  have hr := h.ok.obs j ob hj
  have hhd : (g.inner ids bv).hd k = g.hd j := by simp only [G.inner, nth_get, hk]
  have hp : pos ids j 0 = some k := by have := pos_nth ids k j 0 hnd hk; rwa [Nat.zero_add] at this
  have hren : ∀ sv v, rep g w sv v → rep (g.inner ids bv) w (sv.ren fun j => pos ids j 0) v := fun sv v hr => rep_ren (fun j k hj => by
    have := (pos_spec ids j 0 k hj).2
    rw [Nat.sub_zero] at this
    simp only [G.inner, nth_get, this]) sv v hr fun b m _ hb => by simp only [G.inner, hb]
  cases ob with
  | cells ty cs =>
    obtain ⟨b, vs, h1, h2, h3, h4, h5⟩ := hr
    refine ⟨b, vs, by rw [hhd]; exact h1, by simp only [G.inner, h2, hp], h3, by simpa using h4, fun i sv hi => ?_⟩
    rw [List.getElem?_map] at hi
    cases hx : cs[i]? with
    | none => rw [hx] at hi; cases hi
    | some u => rw [hx] at hi; cases hi; exact hren u _ (h5 i u hx)
  | arr e E xs =>
    obtain ⟨h1, h2⟩ := hr
    exact ⟨by rw [hhd]; exact h1, fun b hb => by rw [hhd] at hb; simp only [G.inner, h2 b hb, hp]⟩

theorem arg_inner (h : Rel nt w0 κ0 C0 hd0 g s a w) (mode : Bool) (ids bv : List Nat) (hdis : disj bv ids = true) (sv : SV) (v : Value) (hr : rep g w sv v) (hbv : ∀ j, sv = .slo j → mode = false → j ∈ bv) :
    rep (g.inner ids bv) w (argSV mode s.H ids sv) v := by
  have hren : ∀ sv v, rep g w sv v → rep (g.inner ids bv) w (sv.ren fun j => pos ids j 0) v := fun sv v hr => rep_ren (fun j k hj => by
    have := (pos_spec ids j 0 k hj).2
    rw [Nat.sub_zero] at this
    simp only [G.inner, nth_get, this]) sv v hr fun b m _ hb => by simp only [G.inner, hb]
  cases sv with
  | slo j =>
    cases mode with
    | true => exact hren (.slo j) v hr
    | false =>
      simp only [argSV, cond_false]
      split
      · rename_i e E xs hj
        obtain ⟨h1, h2⟩ := h.ok.obs j _ hj
        have hv : v = g.hd j := hr.1
        subst hv
        have hm := hbv j rfl rfl
        have hp : pos ids j 0 = none := by
          cases hp : pos ids j 0 with
          | none => rfl
          | some k => exact absurd (List.mem_of_getElem? (pos_spec ids j 0 k hp).2) (disj_spec bv ids hdis j hm)
        exact own_shared h1 (m := true) (fun _ => rfl) fun b hb => by simp only [G.inner, h2 b hb, hp, (memb_iff j bv).2 hm, if_true]
      · trivial
  | undef => trivial
  | mark => trivial
  | sh l x => exact hren _ v hr
  | nil => exact hr
  | int k n => exact hr
  | bool b => exact hr
  | str l => exact hr
  | sl l e E xs => exact hren _ v hr
  | ea ow e E xs i => exact hren _ v hr
  | ref j o => exact hren _ v hr
  | clo c caps => exact hren _ v hr

theorem callK_sound {P : Program} {fid : Nat} {mode : Bool} {R : Type} {F : CF R} (hG : Good P fid mode F) (s : St) (dst : Option Tmp) (args : List SV) (K : St → Option R) (r : R)
    (hc : callK mode F s dst args K = some r) : ∃ s', K s' = some r ∧ ∀ {nt w0 κ0 C0 hd0 g a w}, Rel nt w0 κ0 C0 hd0 g s a w → ∀ vals : List Value, args.length = vals.length →
      (∀ i sv, args[i]? = some sv → rep g w sv (vals.getD i undef)) → (∀ d, dst = some d → d < nt) → CallsV P fid vals.toArray w fun v w' => ∃ g2, Rel nt w0 κ0 C0 hd0 g2 s' (a.put dst v) w' := by
  unfold callK at hc
  simp only at hc
  split at hc
  · cases hc
  · rename_i objs hobs
    cases h1 : (disj (bvIds mode args) (reach s.H 64 (argIds mode args) []) && nodupB (reach s.H 64 (argIds mode args) []) && Nat.blt (reach s.H 64 (argIds mode args) []).length 1000 &&
      !anyP (isNew (dOf dst)) (reach s.H 64 (argIds mode args) [])) with
    | false => rw [h1] at hc; cases hc
    | true =>
      rw [h1] at hc
      simp only [cond_true] at hc
      simp only [Bool.and_eq_true, Bool.not_eq_true'] at h1
      obtain ⟨res, objs2, hK, hfacts⟩ := hG _ _ _ _ hc
      cases h2 : (Nat.ble (reach s.H 64 (argIds mode args) []).length objs2.length && Nat.ble (objs2.length - (reach s.H 64 (argIds mode args) []).length) 64 && (!(anySh res || anyObSh objs2) || isNilL (bvIds mode args))) with
      | false => rw [h2] at hK; cases hK
      | true =>
        rw [h2] at hK
        simp only [cond_true] at hK
        simp only [Bool.and_eq_true] at h2
        refine ⟨_, hK, fun {nt w0 κ0 C0 hd0 g a w} h vals hlen hargs hd => ?_⟩
        obtain ⟨hol, hob⟩ := getObs_spec s.H _ _ objs hobs
        refine call_core h mode _ (bvIds mode args) dst h1.1.1.2 h1.2 hobs (Nat.le_of_ble_eq_true h2.1.1) (Nat.le_of_ble_eq_true h2.1.2) ?_ hd ?_
        · cases hs : (anySh res || anyObSh objs2) with
          | false => exact .inl rfl
          | true =>
            right
            have h3 := h2.2
            rw [hs] at h3
            simp only [Bool.not_true, Bool.false_or] at h3
            cases hb : bvIds mode args with
            | nil => rfl
            | cons _ _ => rw [hb] at h3; cases h3
        · refine hfacts (g.inner _ (bvIds mode args)) vals w (fun b hb => ?_) (fun k ob hk => ?_) (by simpa using hlen) (fun i sv hi => ?_) (by rw [hol]; simpa using h1.1.2)
          · simp only [G.inner, h.ok.fresh b hb]
          · have hkl : k < (reach s.H 64 (argIds mode args) []).length := by rw [← hol]; exact (List.getElem?_eq_some_iff.1 hk).1
            obtain ⟨ob0, hl, ho⟩ := hob k _ (List.getElem?_eq_getElem hkl)
            rw [ho] at hk
            cases hk
            exact ob_inner h _ _ h1.1.1.2 (List.getElem?_eq_getElem hkl) hl
          · rw [List.getElem?_map] at hi
            cases hx : args[i]? with
            | none => rw [hx] at hi; cases hi
            | some u =>
              rw [hx] at hi
              cases hi
              exact arg_inner h mode _ _ h1.1.1.1 u _ (hargs i u hx) fun j hj hm => bv_mem mode args j (hj ▸ List.mem_of_getElem? hx) hm

theorem refs_get : ∀ (l : List Nat) (i : Nat), (refs l)[i]? = (l[i]?).map fun j => SV.ref j 0
  | [], i => by simp [refs]
  | j :: r, i => by
    cases i with
    | zero => rfl
    | succ i => simpa [refs] using refs_get r i

theorem refs_length : ∀ l : List Nat, (refs l).length = l.length
  | [] => rfl
  | j :: r => by simp [refs, refs_length r]

theorem capsOk_spec (H : List (Nat × Ob)) : ∀ l, capsOk H l = true → ∀ j ∈ l, ∃ ty cs, look H j = some (.cells ty cs)
  | [], _, j, hj => by cases hj
  | x :: r, h, j, hj => by
    simp only [capsOk, Bool.and_eq_true] at h
    rcases List.mem_cons.1 hj with rfl | hj
    · have h1 := h.1
      split at h1
      · rename_i ty cs hx; exact ⟨ty, cs, hx⟩
      · cases h1
    · exact capsOk_spec H r h.2 j hj

theorem calls_wp {P : Program} {o : Oper} {fid : Nat} {vals : Array Value} (hrun : (execOp a.eval o).run P w = (callFunc fid vals).run P w) {next : Act → World → Prop} {Q : Exit → Act → World → Prop}
    (h : CallsV P fid vals w fun v w' => next (a.put o.dst v) w') : o.wp P a w next Q := by
  unfold Oper.wp
  rw [hrun]
  rcases h with ⟨h1, h2⟩ | ⟨v, w', h1, h2⟩
  · rw [h1]
    show Calls P fid vals w _
    refine h2.mono fun e w' ⟨v, he, hn⟩ => ?_
    subst he
    exact hn
  · rw [h1]
    exact h2

theorem freeze_sound (h : Rel nt w0 κ0 C0 hd0 g s a w) (j : Nat) : ∃ g', Rel nt w0 κ0 C0 hd0 g' (s.freeze j) a w := by
  cases hH : look s.H j with
  | none =>
    have : s.freeze j = s := by unfold St.freeze; rw [hH]
    exact ⟨g, by rw [this]; exact h⟩
  | some ob =>
    cases ob with
    | cells ty cs =>
      have : s.freeze j = s := by unfold St.freeze; rw [hH]
      exact ⟨g, by rw [this]; exact h⟩
    | arr e E xs => exact ⟨_, h.freeze j hH⟩

theorem freezeAll_sound : ∀ (l : List Nat) {s : St} {g : G}, Rel nt w0 κ0 C0 hd0 g s a w → ∃ g', Rel nt w0 κ0 C0 hd0 g' (freezeAll l s) a w
  | [], s, g, h => ⟨g, h⟩
  | j :: r, s, g, h => by obtain ⟨g', h'⟩ := freeze_sound h j; exact freezeAll_sound r h'

theorem postFz_sound (A : Ann) (dst : Option Tmp) (h : Rel nt w0 κ0 C0 hd0 g s a w) : ∃ g', Rel nt w0 κ0 C0 hd0 g' (postFz A dst s) a w := by
  unfold postFz
  split
  · rename_i d
    cases A.fz d with
    | false => exact ⟨g, h⟩
    | true =>
      simp only [cond_true]
      split
      · exact freezeAll_sound _ h
      · exact freezeAll_sound _ h
      · exact ⟨g, h⟩
  · exact ⟨g, h⟩

/-- A step of the abstract run. -/
theorem stepOp_sound {V : Env} (hV : EnvOk V) {R : Type} {T : Tab R} (hT : ∀ f mode F, T f = some (mode, F) → Good V.P f mode F) (A : Ann) (nt : Nat) (s : St) (o : Oper) (K : St → Option R) (r : R)
    (hc : stepOp T V A nt s o K = some r) : ∃ s', K s' = some r ∧ ∀ {w0 κ0 C0 hd0 g a w}, Rel nt w0 κ0 C0 hd0 g s a w → ∀ {next : Act → World → Prop} {Q : Exit → Act → World → Prop},
      (∀ g' a' w', Rel nt w0 κ0 C0 hd0 g' s' a' w' → next a' w') → o.wp V.P a w next Q := by
  unfold stepOp at hc
  cases hdst : dOk nt o.dst with
  | false => rw [hdst] at hc; cases hc
  | true =>
    rw [hdst] at hc
    simp only [cond_true] at hc
    have hd : ∀ d, o.dst = some d → d < nt := fun d hd => by rw [hd] at hdst; simpa [dOk] using hdst
    split at hc
    · rename_i f args argTypes hop
      split at hc
      · rename_i fid caps hf
        split at hc
        · rename_i mode F hT'
          cases hcap : capsOk s.H caps with
          | false => rw [hcap] at hc; cases hc
          | true =>
            rw [hcap] at hc
            simp only [cond_true] at hc
            obtain ⟨s', hK, hfacts⟩ := callK_sound (hT fid mode F hT') s o.dst _ _ r hc
            refine ⟨_, hK, fun {w0 κ0 C0 hd0 g a w} h {next Q} hn => ?_⟩
            have hfv : a.eval f = .func (.func fid) #[] (caps.map g.hd).toArray := evs_of h hf
            have hvals := hfacts h ((args.map a.eval).toList ++ caps.map g.hd) (by simp [callArgs, refs_length]) (fun i sv hi => by
              unfold callArgs at hi
              rw [List.getElem?_append] at hi
              split at hi
              · rename_i hlt
                simp only [List.length_map] at hlt
                rw [List.getElem?_map] at hi
                cases hx : args.toList[i]? with
                | none => rw [hx] at hi; cases hi
                | some x =>
                  rw [hx] at hi
                  cases hi
                  have := evs_rep h x
                  rw [List.getD_eq_getElem?_getD, List.getElem?_append_left (by simpa using hlt)]
                  simp only [Array.toList_map, List.getElem?_map, hx, Option.map_some, Option.getD_some]
                  exact this
              · rename_i hlt
                simp only [List.length_map, Nat.not_lt] at hlt
                rw [refs_get] at hi
                cases hx : caps[i - (args.toList.map (evs s)).length]? with
                | none => rw [hx] at hi; cases hi
                | some j =>
                  rw [hx] at hi
                  cases hi
                  obtain ⟨ty, cs, hl⟩ := capsOk_spec s.H caps hcap j (List.mem_of_getElem? hx)
                  obtain ⟨b, vs, h1, _⟩ := h.ok.obs j _ hl
                  refine ⟨b, h1, ?_⟩
                  rw [List.getD_eq_getElem?_getD, List.getElem?_append_right (by simpa using hlt), List.getElem?_map]
                  simp only [List.length_map] at hx
                  simp only [Array.toList_map, List.length_map, hx, Option.map_some, Option.getD_some]
                  exact h1) hd
            refine calls_wp (fid := fid) (vals := args.map a.eval ++ (caps.map g.hd).toArray) ?_ ?_
            · simp [execOp, hop, resolve, hfv, Deferred.ofValue, invoke]
            · have he : ((args.map a.eval).toList ++ caps.map g.hd).toArray = args.map a.eval ++ (caps.map g.hd).toArray := by
                apply Array.toList_inj.1
                simp
              rw [he] at hvals
              exact hvals.mono fun v w' ⟨g2, hr⟩ => by obtain ⟨g3, hr'⟩ := postFz_sound A o.dst hr; exact hn g3 _ _ hr'
        · cases hc
      · cases hc
    · split at hc
      · rename_i c s' hm
        cases c with
        | false => cases hc
        | true => exact ⟨_, hc, fun {w0 κ0 C0 hd0 g a w} h {next Q} hn => opMut_sound hV A h o s' hd hm fun g' a' w' hr => by obtain ⟨g3, hr'⟩ := postFz_sound A o.dst hr; exact hn g3 _ _ hr'⟩
      · split at hc
        · rename_i c v hv
          cases c with
          | false => cases hc
          | true =>
            refine ⟨_, hc, fun {w0 κ0 C0 hd0 g a w} h {next Q} hn => ?_⟩
            obtain ⟨u, hr, hrep⟩ := opVal_sound hV h o v hv
            refine wp_value hr (hn g _ _ ?_)
            unfold putO
            cases ho : o.dst with
            | none => exact h
            | some d => exact h.put d (hd d ho) _ _ hrep
        · cases hc

theorem Rel.refine (h : Rel nt w0 κ0 C0 hd0 g s a w) (t : Nat) (av : AV) (hv : repA g w av (a.tmps.getD t undef)) : Rel nt w0 κ0 C0 hd0 g (s.put t av) a w := by
  refine ⟨h.ok, fun u => ?_, h.nt, h.df⟩
  rw [get_put]
  split
  · rename_i e; subst e; exact hv
  · exact h.slots u

/-- What a piece of code comes to. -/
def Comes' (P : Program) (nt : Nat) (c : Code) (s : St) (e : Exit) (s' : St) : Prop :=
  ∀ {w0 κ0 C0 hd0 g a w}, Rel nt w0 κ0 C0 hd0 g s a w → c.wp P (fun e' a' w' => e' = e ∧ ∃ g', Rel nt w0 κ0 C0 hd0 g' s' a' w') a w

def RegOk (P : Program) (nt : Nat) (ops : Array Oper) (s s' : St) : Prop :=
  ∀ {w0 κ0 C0 hd0 g a w}, Rel nt w0 κ0 C0 hd0 g s a w → ∀ (id : Nat) {Q : Exit → Act → World → Prop}, (∀ g' a' w', Rel nt w0 κ0 C0 hd0 g' s' a' w' → Q .normal a' w') → (Code.region id ops true).wp P Q a w

theorem guardK_sound {R : Type} {ops : Array Oper} {o : Oper} {s : St} {yes no : St → Option R} {r : R} (hc : guardK ops o s yes no = some r) :
    (∃ s1, yes s1 = some r ∧ ∀ {nt w0 κ0 C0 hd0 g a w}, Rel nt w0 κ0 C0 hd0 g s a w → Rel nt w0 κ0 C0 hd0 g s1 a w ∧ Region.wanted o (yielded ops a.tmps) = true) ∨
    (∃ s1, no s1 = some r ∧ ∀ {nt w0 κ0 C0 hd0 g a w}, Rel nt w0 κ0 C0 hd0 g s a w → Rel nt w0 κ0 C0 hd0 g s1 a w ∧ Region.wanted o (yielded ops a.tmps) = false) := by
  unfold guardK at hc
  split at hc
  · rename_i hg
    exact .inl ⟨s, hc, fun h => ⟨h, by simp [Region.wanted, hg]⟩⟩
  · rename_i j want hg
    split at hc
    · rename_i t ht
      split at hc
      · rename_i b hb
        have key : ∀ {nt w0 κ0 C0 hd0 g a w}, Rel nt w0 κ0 C0 hd0 g s a w → a.tmps.getD t undef = .bool b ∧ Region.wanted o (yielded ops a.tmps) = (b == want) := by
          intro nt w0 κ0 C0 hd0 g a w h
          have hv := h.slots t
          rw [hb] at hv
          have hv : a.tmps.getD t undef = .bool b := hv
          refine ⟨hv, ?_⟩
          have hget : a.tmps[t]? = some (.bool b) := by
            rw [Array.getD_eq_getD_getElem?] at hv
            cases hx : a.tmps[t]? with
            | none => rw [hx] at hv; cases hv
            | some u => rw [hx] at hv; exact congrArg some hv
          have hy : yielded ops a.tmps j = some b := by simp only [yielded, ht, Option.bind_some, hget]
          simp only [Region.wanted, hg, hy]
          cases b <;> cases want <;> rfl
        have fine : ∀ {c : Bool}, b = c → ∀ {nt w0 κ0 C0 hd0 g a w}, Rel nt w0 κ0 C0 hd0 g s a w → Rel nt w0 κ0 C0 hd0 g (s.put t (.s (.bool c))) a w := by
          intro c hbc nt w0 κ0 C0 hd0 g a w h
          subst hbc
          exact h.refine t _ (key h).1
        cases want with
        | true =>
          cases b with
          | true => exact .inl ⟨_, hc, fun h => ⟨fine rfl h, by rw [(key h).2]; rfl⟩⟩
          | false => exact .inr ⟨_, hc, fun h => ⟨fine rfl h, by rw [(key h).2]; rfl⟩⟩
        | false =>
          cases b with
          | true => exact .inr ⟨_, hc, fun h => ⟨fine rfl h, by rw [(key h).2]; rfl⟩⟩
          | false => exact .inl ⟨_, hc, fun h => ⟨fine rfl h, by rw [(key h).2]; rfl⟩⟩
      · rename_i hb
        refine .inr ⟨_, hc, fun {nt w0 κ0 C0 hd0 g a w} h => ⟨h, ?_⟩⟩
        have hv := h.slots t
        rw [hb] at hv
        obtain ⟨xs, h1, h2, _⟩ := hv
        have hy : yielded ops a.tmps j = none := by
          rw [Array.getD_eq_getD_getElem?] at h1
          simp only [yielded, ht, Option.bind_some]
          cases hx : a.tmps[t]? with
          | none => rfl
          | some u =>
            rw [hx] at h1
            have h1 : u = .tuple xs := h1
            subst h1
            rfl
        simp only [Region.wanted, hg, hy]
        rfl
      · cases hc
    · cases hc

section
variable {V : Env} (hV : EnvOk V) {R : Type} {T : Tab R} (hT : ∀ f mode F, T f = some (mode, F) → Good V.P f mode F) (A : Ann) (nt : Nat)

include hV hT in
theorem evOps_sound (ops : Array Oper) : ∀ (l : List Oper) (i : Nat) (s : St) (K : St → Option R) (r : R), ops.toList.drop i = l → evOps T V A nt ops l s K = some r →
    ∃ s', K s' = some r ∧ ∀ {w0 κ0 C0 hd0 g a w}, Rel nt w0 κ0 C0 hd0 g s a w → ∀ {Q : Exit → Act → World → Prop}, (∀ g' a' w', Rel nt w0 κ0 C0 hd0 g' s' a' w' → Q .normal a' w') → wpOps V.P ops Q (List.range' i l.length) a w
  | [], i, s, K, r, _, hc => ⟨s, hc, fun {w0 κ0 C0 hd0 g a w} h {Q} hn => hn g a w h⟩
  | o :: l, i, s, K, r, hl, hc => by
    have hget : ops[i]? = some o := by
      have : (ops.toList.drop i)[0]? = some o := by rw [hl]; rfl
      rw [List.getElem?_drop] at this
      simpa using this
    have hl' : ops.toList.drop (i + 1) = l := by rw [← List.tail_drop, hl]; rfl
    simp only [evOps] at hc
    rcases guardK_sound hc with ⟨s1, h1, hg⟩ | ⟨s1, h1, hg⟩
    · obtain ⟨s2, h2, hs⟩ := stepOp_sound hV hT A nt s1 o _ r h1
      obtain ⟨s', hK, hrest⟩ := evOps_sound ops l (i + 1) s2 K r hl' h2
      refine ⟨s', hK, fun {w0 κ0 C0 hd0 g a w} h {Q} hn => ?_⟩
      obtain ⟨hr, hw⟩ := hg h
      rw [List.length_cons, List.range'_succ, wpOps_cons]
      unfold wpOp
      rw [hget]
      simp only [hw, if_true]
      exact .inl (hs hr fun g' a' w' hr' => hrest hr' hn)
    · cases hd : dOk nt o.dst with
      | false => rw [hd] at h1; cases h1
      | true =>
        rw [hd] at h1
        simp only [cond_true] at h1
        obtain ⟨s', hK, hrest⟩ := evOps_sound ops l (i + 1) _ K r hl' h1
        refine ⟨s', hK, fun {w0 κ0 C0 hd0 g a w} h {Q} hn => ?_⟩
        obtain ⟨hr, hw⟩ := hg h
        rw [List.length_cons, List.range'_succ, wpOps_cons]
        unfold wpOp
        rw [hget]
        simp only [hw]
        refine hrest (g := g) ?_ hn
        unfold putO
        cases ho : o.dst with
        | none => exact hr
        | some d => exact hr.put d (by rw [ho] at hd; simpa [dOk] using hd) _ _ ⟨#[], rfl, rfl, fun i sv hi => by simp at hi⟩

theorem freezeSlots_sound : ∀ (l : List Nat) {w0 κ0 C0 hd0 g s a w}, Rel nt w0 κ0 C0 hd0 g s a w → ∃ g', Rel nt w0 κ0 C0 hd0 g' (freezeSlots l s) a w
  | [], w0, κ0, C0, hd0, g, s, a, w, h => ⟨g, h⟩
  | t :: r, w0, κ0, C0, hd0, g, s, a, w, h => by
    unfold freezeSlots
    split
    · rename_i j hj
      obtain ⟨g', h'⟩ := freeze_sound h j
      exact freezeSlots_sound r h'
    · exact freezeSlots_sound r h

theorem keepSl_look (s : St) : ∀ (L : List Nat) (t : Nat), look (keepSl s L) t = some (s.get t) ∨ look (keepSl s L) t = none
  | [], t => .inr rfl
  | x :: r, t => by
    show look ((x, s.get x) :: keepSl s r) t = _ ∨ _
    rw [look_cons]
    by_cases h : x = t
    · subst h; left; simp
    · simp only [h, if_false]
      show _ ∨ look ((x, s.get x) :: keepSl s r) t = none
      rw [look_cons, if_neg h]
      exact keepSl_look s r t

theorem keepH_look (H : List (Nat × Ob)) : ∀ (L : List Nat) (j : Nat) (ob : Ob), look (keepH H L) j = some ob → look H j = some ob
  | [], j, ob, h => by cases h
  | x :: r, j, ob, h => by
    unfold keepH at h
    split at h
    · rename_i o ho
      rw [look_cons] at h
      split at h
      · rename_i e; subst e; cases h; exact ho
      · exact keepH_look H r j ob h
    · exact keepH_look H r j ob h

theorem cut_sound {w0 κ0 C0 hd0 g s a w} (h : Rel nt w0 κ0 C0 hd0 g s a w) (L : List Nat) : Rel nt w0 κ0 C0 hd0 g (cutSt L s) a w := by
  refine ⟨⟨h.ok.os, h.ok.tape, h.ok.output, h.ok.size, h.ok.old, h.ok.fresh, fun j ob hj => h.ok.obs j ob (keepH_look _ _ j ob hj), fun j hj => ?_⟩, fun t => ?_, h.nt, h.df⟩
  · obtain ⟨h1, h2, h3⟩ := h.ok.c0 j hj
    exact ⟨h1, h2, fun e E xs hx => h3 e E xs (keepH_look _ _ j _ hx)⟩
  · have : repA g w (match look (keepSl s L) t with | some v => v | none => .s .undef) (a.tmps.getD t undef) := by
      rcases keepSl_look s L t with hk | hk
      · rw [hk]; exact h.slots t
      · rw [hk]; trivial
    exact this

theorem cutAt_sound {w0 κ0 C0 hd0 g s a w} (h : Rel nt w0 κ0 C0 hd0 g s a w) (c : Code) : Rel nt w0 κ0 C0 hd0 g (cutAt A c s) a w := by
  unfold cutAt
  split
  · exact cut_sound nt h _
  · exact h

theorem cutOut_sound {w0 κ0 C0 hd0 g s a w} (h : Rel nt w0 κ0 C0 hd0 g s a w) (e : Exit) : Rel nt w0 κ0 C0 hd0 g (cutOut A e s) a w := by
  unfold cutOut
  split
  · exact cut_sound nt h _
  · exact h

/-- What a loop's stand-in must answer for. -/
def LoopOk (P : Program) (nt : Nat) (L : Code → St → (Exit → St → Option R) → Option R) (c : Code) : Prop :=
  ∀ s K r, L c s K = some r → ∃ e s', K e s' = some r ∧ Comes' P nt (.loop c) s e s'

/-- What is behind a round. -/
def loopK {R α : Type} (A : Ann) (c : Code) (dec : St → Option α) (lf : Nat → α → (Exit → St → Option R) → Option R) (n : Nat) (K : Exit → St → Option R) (e : Exit) (s' : St) : Option R :=
  match e with
  | .normal => (dec (cutAt A c s')).bind fun v' => lf n v' K
  | .exit i => K (.exit i) (cutOut A (.exit i) s')
  | .ret => K .ret (cutOut A .ret s')
  | _ => none

/-- THE LAW of loops: a plain function that goes on as the body does. -/
theorem loop_sound {P : Program} {c : Code} {body : St → (Exit → St → Option R) → Option R} (hb : ∀ s K r, body s K = some r → ∃ e s', K e s' = some r ∧ Comes' P nt c s e s')
    {α : Type} (dec : St → Option α) (enc : α → St) (henc : ∀ s v, dec s = some v → ∀ {w0 κ0 C0 hd0 g a w}, Rel nt w0 κ0 C0 hd0 g s a w → Rel nt w0 κ0 C0 hd0 g (enc v) a w) (lf : Nat → α → (Exit → St → Option R) → Option R) (h0 : ∀ v K, lf 0 v K = none)
    (hs : ∀ n v K r, lf (n + 1) v K = some r → body (enc v) (loopK A c dec lf n K) = some r) :
    ∀ (n : Nat) (s : St) (v : α) (K : Exit → St → Option R) (r : R), dec (cutAt A c s) = some v → lf n v K = some r → ∃ e s', K e s' = some r ∧ e ≠ .normal ∧
      ∀ {w0 κ0 C0 hd0 g a w}, Rel nt w0 κ0 C0 hd0 g s a w → Code.rounds P c (fun e' a' w' => e' = e ∧ ∃ g', Rel nt w0 κ0 C0 hd0 g' s' a' w') n a w
  | 0, s, v, K, r, hd, h => by rw [h0] at h; cases h
  | n + 1, s, v, K, r, hd, h => by
    obtain ⟨e, s1, hK, hc⟩ := hb _ _ _ (hs n v K r h)
    have hse := fun {w0 κ0 C0 hd0 g a w} => @henc _ _ hd w0 κ0 C0 hd0 g a w
    have leave : ∀ e, K e (cutOut A e s1) = some r → e ≠ .normal → (∀ {w0 κ0 C0 hd0 g a w}, Rel nt w0 κ0 C0 hd0 g (enc v) a w → c.wp P (fun e' a' w' => e' = e ∧ ∃ g', Rel nt w0 κ0 C0 hd0 g' s1 a' w') a w) →
        ∃ e s', K e s' = some r ∧ e ≠ .normal ∧ ∀ {w0 κ0 C0 hd0 g a w}, Rel nt w0 κ0 C0 hd0 g s a w → Code.rounds P c (fun e' a' w' => e' = e ∧ ∃ g', Rel nt w0 κ0 C0 hd0 g' s' a' w') (n + 1) a w := by
      intro e hK hne hc
      refine ⟨e, _, hK, hne, fun {w0 κ0 C0 hd0 g a w} h => ?_⟩
      rw [rounds_succ]
      refine wp_mono (hc (hse (cutAt_sound A nt h c))) fun e' a' w' ⟨he, g', hr⟩ => ?_
      subst he
      have := cutOut_sound A nt hr e'
      cases e' with
      | normal => exact absurd rfl hne
      | exit i => exact ⟨rfl, g', this⟩
      | goto i => exact ⟨rfl, g', this⟩
      | ret => exact ⟨rfl, g', this⟩
      | panic ch => exact ⟨rfl, g', this⟩
      | outgrown => exact ⟨rfl, g', this⟩
    cases e with
    | normal =>
      simp only [loopK] at hK
      cases hd' : dec (cutAt A c s1) with
      | none => rw [hd'] at hK; cases hK
      | some v' =>
        rw [hd'] at hK
        obtain ⟨e, s', hK', hne, hrest⟩ := loop_sound hb dec enc henc lf h0 hs n s1 v' K r hd' hK
        refine ⟨e, s', hK', hne, fun {w0 κ0 C0 hd0 g a w} h => ?_⟩
        rw [rounds_succ]
        refine wp_mono (hc (hse (cutAt_sound A nt h c))) fun e' a' w' ⟨he, g', hr⟩ => ?_
        subst he
        exact hrest hr
    | exit i => exact leave _ hK (by simp) hc
    | goto i => cases hK
    | ret => exact leave _ hK (by simp) hc
    | panic ch => cases hK
    | outgrown => cases hK

include hV hT in
/-- THE LAW of the abstract run of code. -/
theorem evk_sound {D : Array Oper → St → (St → Option R) → Option R} (hD : ∀ ops s K r, D ops s K = some r → ∃ s', K s' = some r ∧ RegOk V.P nt ops s s')
    {L : Code → St → (Exit → St → Option R) → Option R} : ∀ (c : Code), (∀ c' ∈ loops c, LoopOk V.P nt L c') → ∀ (s : St) (K : Exit → St → Option R) (r : R), evk T V A nt D L c s K = some r → ∃ e s', K e s' = some r ∧ Comes' V.P nt c s e s' := by
  intro c
  induction c with
  | skip => exact fun _ s K r h => ⟨.normal, s, h, fun {w0 κ0 C0 hd0 g a w} hr => wp_skip ⟨rfl, g, hr⟩⟩
  | region id ops draw =>
    intro hL s K r h
    cases draw with
    | false =>
      obtain ⟨s', hK, hs⟩ := evOps_sound hV hT A nt ops ops.toList 0 _ _ r (by simp) h
      refine ⟨.normal, s', hK, fun {w0 κ0 C0 hd0 g a w} hr => ?_⟩
      obtain ⟨g', hr'⟩ := freezeSlots_sound nt (A.frz id) hr
      refine wp_region ?_
      rw [List.range_eq_range']
      have := hs hr' (Q := fun e' a' w' => e' = .normal ∧ ∃ g', Rel nt w0 κ0 C0 hd0 g' s' a' w') fun g' a' w' h' => ⟨rfl, g', h'⟩
      simpa using this
    | true =>
      obtain ⟨s', hK, hs⟩ := hD _ _ _ _ h
      refine ⟨.normal, s', hK, fun {w0 κ0 C0 hd0 g a w} hr => ?_⟩
      obtain ⟨g', hr'⟩ := freezeSlots_sound nt (A.frz id) hr
      exact hs hr' id fun g' a' w' h' => ⟨rfl, g', h'⟩
  | seq x y ihx ihy =>
    intro hL s K r h
    obtain ⟨e, s1, h1, hc1⟩ := ihx (fun c' h => hL c' (by simp [loops, h])) _ _ _ h
    cases e with
    | normal =>
      obtain ⟨e, s', hK, hc2⟩ := ihy (fun c' h => hL c' (by simp [loops, h])) _ _ _ h1
      refine ⟨e, s', hK, fun {w0 κ0 C0 hd0 g a w} hr => wp_seq (wp_mono (hc1 hr) fun e' a' w' ⟨he, g', hr'⟩ => ?_)⟩
      subst he
      exact hc2 (cutAt_sound A nt hr' y)
    | exit i => exact ⟨_, s1, h1, fun {w0 κ0 C0 hd0 g a w} hr => wp_seq (wp_mono (hc1 hr) fun e' a' w' ⟨he, g', hr'⟩ => by subst he; exact ⟨rfl, g', hr'⟩)⟩
    | goto i => exact ⟨_, s1, h1, fun {w0 κ0 C0 hd0 g a w} hr => wp_seq (wp_mono (hc1 hr) fun e' a' w' ⟨he, g', hr'⟩ => by subst he; exact ⟨rfl, g', hr'⟩)⟩
    | ret => exact ⟨_, s1, h1, fun {w0 κ0 C0 hd0 g a w} hr => wp_seq (wp_mono (hc1 hr) fun e' a' w' ⟨he, g', hr'⟩ => by subst he; exact ⟨rfl, g', hr'⟩)⟩
    | panic ch => exact ⟨_, s1, h1, fun {w0 κ0 C0 hd0 g a w} hr => wp_seq (wp_mono (hc1 hr) fun e' a' w' ⟨he, g', hr'⟩ => by subst he; exact ⟨rfl, g', hr'⟩)⟩
    | outgrown => exact ⟨_, s1, h1, fun {w0 κ0 C0 hd0 g a w} hr => wp_seq (wp_mono (hc1 hr) fun e' a' w' ⟨he, g', hr'⟩ => by subst he; exact ⟨rfl, g', hr'⟩)⟩
  | cond x y z ihy ihz =>
    intro hL s K r h
    simp only [evk] at h
    split at h
    · rename_i t v ht
      have key : ∀ {w0 κ0 C0 hd0 g a w}, Rel nt w0 κ0 C0 hd0 g s a w → a.eval (.tmp t) = .bool v ∧ Rel nt w0 κ0 C0 hd0 g (s.put t (.s (.bool v))) a w := by
        intro w0 κ0 C0 hd0 g a w hr
        have h1 : a.eval (.tmp t) = .bool v := evs_of hr ht
        exact ⟨h1, hr.refine t _ h1⟩
      cases v with
      | true =>
        obtain ⟨e, s', hK, hc⟩ := ihy (fun c' h => hL c' (by simp [loops, h])) _ _ _ h
        exact ⟨e, s', hK, fun {w0 κ0 C0 hd0 g a w} hr => wp_cond_true (key hr).1 (hc (key hr).2)⟩
      | false =>
        obtain ⟨e, s', hK, hc⟩ := ihz (fun c' h => hL c' (by simp [loops, h])) _ _ _ h
        exact ⟨e, s', hK, fun {w0 κ0 C0 hd0 g a w} hr => wp_cond_false (key hr).1 (hc (key hr).2)⟩
    · cases h
  | block id c ih =>
    intro hL s K r h
    obtain ⟨e, s', hK, hc⟩ := ih (fun c' h => hL c' h) _ _ _ h
    cases e with
    | exit i =>
      cases hi : Nat.beq i id with
      | true =>
        have he : i = id := Nat.eq_of_beq_eq_true hi
        subst he
        simp only [hi, cond_true] at hK
        refine ⟨.normal, s', hK, fun {w0 κ0 C0 hd0 g a w} hr => wp_block (wp_mono (hc hr) fun e' a' w' ⟨he, g', hr'⟩ => ?_)⟩
        subst he
        simp only [Exit.inBlock, if_true]
        exact ⟨trivial, g', hr'⟩
      | false =>
        have hne : i ≠ id := fun e => by subst e; simp at hi
        simp only [hi, cond_false] at hK
        refine ⟨.exit i, s', hK, fun {w0 κ0 C0 hd0 g a w} hr => wp_block (wp_mono (hc hr) fun e' a' w' ⟨he, g', hr'⟩ => ?_)⟩
        subst he
        simp only [Exit.inBlock, hne, if_false]
        exact ⟨trivial, g', hr'⟩
    | normal => exact ⟨_, s', hK, fun {w0 κ0 C0 hd0 g a w} hr => wp_block (wp_mono (hc hr) fun e' a' w' ⟨he, g', hr'⟩ => by subst he; exact ⟨rfl, g', hr'⟩)⟩
    | goto i => exact ⟨_, s', hK, fun {w0 κ0 C0 hd0 g a w} hr => wp_block (wp_mono (hc hr) fun e' a' w' ⟨he, g', hr'⟩ => by subst he; exact ⟨rfl, g', hr'⟩)⟩
    | ret => exact ⟨_, s', hK, fun {w0 κ0 C0 hd0 g a w} hr => wp_block (wp_mono (hc hr) fun e' a' w' ⟨he, g', hr'⟩ => by subst he; exact ⟨rfl, g', hr'⟩)⟩
    | panic ch => exact ⟨_, s', hK, fun {w0 κ0 C0 hd0 g a w} hr => wp_block (wp_mono (hc hr) fun e' a' w' ⟨he, g', hr'⟩ => by subst he; exact ⟨rfl, g', hr'⟩)⟩
    | outgrown => exact ⟨_, s', hK, fun {w0 κ0 C0 hd0 g a w} hr => wp_block (wp_mono (hc hr) fun e' a' w' ⟨he, g', hr'⟩ => by subst he; exact ⟨rfl, g', hr'⟩)⟩
  | loop c ih =>
    intro hL s K r h
    exact hL c (by simp [loops]) s K r h
  | exit id => exact fun _ s K r h => ⟨_, s, h, fun {w0 κ0 C0 hd0 g a w} hr => wp_exit ⟨rfl, g, hr⟩⟩
  | ret => exact fun _ s K r h => ⟨_, s, h, fun {w0 κ0 C0 hd0 g a w} hr => wp_ret ⟨rfl, g, hr⟩⟩
  | rangeFunc f ps x y _ _ => intro _ s K r h; cases h
  | scope c _ => intro _ s K r h; cases h
  | label l => intro _ s K r h; cases h
  | goto l => intro _ s K r h; cases h
  | refuse why => intro _ s K r h; cases h

include hV hT in
theorem loop_ok {D : Array Oper → St → (St → Option R) → Option R} (hD : ∀ ops s K r, D ops s K = some r → ∃ s', K s' = some r ∧ RegOk V.P nt ops s s')
    {L : Code → St → (Exit → St → Option R) → Option R} {c : Code} (hL : ∀ c' ∈ loops c, LoopOk V.P nt L c') {α : Type} (dec : St → Option α) (enc : α → St) (henc : ∀ s v, dec s = some v → ∀ {w0 κ0 C0 hd0 g a w}, Rel nt w0 κ0 C0 hd0 g s a w → Rel nt w0 κ0 C0 hd0 g (enc v) a w)
    (lf : Nat → α → (Exit → St → Option R) → Option R) (n : Nat) (hl : ∀ s K, L c s K = ((dec (cutAt A c s)).bind fun v => lf n v K)) (h0 : ∀ v K, lf 0 v K = none)
    (hs : ∀ n v K r, lf (n + 1) v K = some r → evk T V A nt D L c (enc v) (loopK A c dec lf n K) = some r) :
    LoopOk V.P nt L c := by
  intro s K r h
  rw [hl] at h
  cases hv : dec (cutAt A c s) with
  | some v =>
    rw [hv] at h
    obtain ⟨e, s', hK, _, hc⟩ := loop_sound A nt (evk_sound hV hT A nt hD c hL) dec enc henc lf h0 hs n s v K r hv h
    exact ⟨e, s', hK, fun {w0 κ0 C0 hd0 g a w} hr => wp_loop_rounds n (hc hr)⟩
  | none => rw [hv] at h; cases h

end

end

end Go.Proofs.Ytmmadcccjicdcaa.E
