/- Regions whose order is drawn: every order comes to what the run in the text's order tells. -/
import Derived.Test.YtmmadcccjicdcaaE8
namespace Go.Proofs.Ytmmadcccjicdcaa.E
set_option linter.unusedVariables false
set_option linter.unusedSimpArgs false

theorem maskOf_spec (acc : List Nat) : ∀ (l : List Edge) (k : Nat), (maskOf acc l).testBit k = true → ∃ e ∈ l, Region.binds .any e = true ∧ (k = e.on ∨ (acc.getD e.on 0).testBit k = true)
  | [], k, h => by simp [maskOf] at h
  | e :: r, k, h => by
    unfold maskOf at h
    cases hb : Region.binds .any e with
    | false =>
      rw [hb] at h
      obtain ⟨e', h1, h2⟩ := maskOf_spec acc r k h
      exact ⟨e', by simp [h1], h2⟩
    | true =>
      rw [hb] at h
      simp only [cond_true, Nat.testBit_or, Bool.or_eq_true] at h
      rcases h with (h | h) | h
      · obtain ⟨e', h1, h2⟩ := maskOf_spec acc r k h
        exact ⟨e', by simp [h1], h2⟩
      · refine ⟨e, by simp, hb, .inl ?_⟩
        rw [Nat.testBit_two_pow] at h
        simpa [eq_comm] using h
      · exact ⟨e, by simp, hb, .inr h⟩

theorem befs_spec : ∀ (l : List Oper) (acc : List Nat), ∃ tl, befs l acc = acc ++ tl ∧ tl.length = l.length ∧ ∀ (i : Nat) o, l[i]? = some o → ∃ m, tl[i]? = some m ∧ m = maskOf (acc ++ tl.take i) o.after.toList
  | [], acc => ⟨[], by simp [befs], rfl, fun i o h => by simp at h⟩
  | o :: r, acc => by
    obtain ⟨tl, h1, h2, h3⟩ := befs_spec r (acc ++ [maskOf acc o.after.toList])
    refine ⟨maskOf acc o.after.toList :: tl, by simp [befs, h1], by simp [h2], fun i o' hi => ?_⟩
    cases i with
    | zero =>
      simp only [List.getElem?_cons_zero, Option.some.injEq] at hi
      subst hi
      exact ⟨_, rfl, by simp⟩
    | succ i =>
      obtain ⟨m, h4, h5⟩ := h3 i o' (by simpa using hi)
      exact ⟨m, by simpa using h4, by rw [h5]; simp⟩

theorem mask_at (ops : List Oper) (i : Nat) (o : Oper) (h : ops[i]? = some o) : (befs ops []).getD i 0 = maskOf ((befs ops []).take i) o.after.toList := by
  obtain ⟨tl, h1, h2, h3⟩ := befs_spec ops []
  obtain ⟨m, h4, h5⟩ := h3 i o h
  rw [h1, List.nil_append, List.getD_eq_getElem?_getD, h4]
  simpa using h5

theorem edgesDown_spec : ∀ (l : List Oper) (k : Nat), edgesDown k l = true → ∀ (i : Nat) o, l[i]? = some o → ∀ e ∈ o.after.toList, Region.binds .any e = true → e.on < k + i
  | [], k, _, i, o, h => by simp at h
  | x :: r, k, h, i, o, hi => by
    simp only [edgesDown, Bool.and_eq_true, List.all_eq_true, Bool.or_eq_true, Bool.not_eq_true'] at h
    cases i with
    | zero =>
      simp only [List.getElem?_cons_zero, Option.some.injEq] at hi
      subst hi
      intro e he hb
      rcases h.1 e he with h1 | h1
      · rw [hb] at h1; cases h1
      · simpa using h1
    | succ i =>
      intro e he hb
      have := edgesDown_spec r (k + 1) h.2 i o (by simpa using hi) e he hb
      omega

theorem mask_lt {ops : List Oper} (hd : edgesDown 0 ops = true) : ∀ (i k : Nat), ((befs ops []).getD i 0).testBit k = true → k < i := by
  intro i
  induction i using Nat.strongRecOn with
  | _ i ih =>
    intro k hk
    cases ho : ops[i]? with
    | none =>
      obtain ⟨tl, h1, h2, _⟩ := befs_spec ops []
      rw [h1, List.nil_append, List.getD_eq_getElem?_getD, List.getElem?_eq_none (by rw [h2]; exact List.getElem?_eq_none_iff.1 ho)] at hk
      simp at hk
    | some o =>
      rw [mask_at ops i o ho] at hk
      obtain ⟨e, he, hb, h⟩ := maskOf_spec _ _ k hk
      have hlt := edgesDown_spec ops 0 hd i o ho e he hb
      rw [Nat.zero_add] at hlt
      rcases h with h | h
      · omega
      · rw [List.getD_eq_getElem?_getD, List.getElem?_take, if_pos hlt, ← List.getD_eq_getElem?_getD] at h
        have := ih e.on hlt k h
        omega

def Closed (ops : List Oper) (listed : Array Bool) : Prop := ∀ j, listed.getD j false = true → ∀ k, ((befs ops []).getD j 0).testBit k = true → listed.getD k false = true

theorem binds_any {e : Edge} (h : Region.binds .any e = true) (md : Region.Mode) : Region.binds md e = true := by
  unfold Region.binds at *
  split at h <;> simp_all

theorem ready_mem {md : Region.Mode} {ops : Array Oper} {listed : Array Bool} {i : Nat} (h : i ∈ Region.ready md ops listed) :
    i < ops.size ∧ listed.getD i true = false ∧ ∃ o, ops[i]? = some o ∧ ∀ e ∈ o.after.toList, Region.binds md e = true → listed.getD e.on false = true := by
  unfold Region.ready at h
  rw [List.mem_filter] at h
  obtain ⟨h1, h2⟩ := h
  simp only [Bool.and_eq_true, Bool.not_eq_true'] at h2
  have hlt := List.mem_range.1 h1
  refine ⟨hlt, h2.1, ops[i], Array.getElem?_eq_getElem hlt, fun e he hb => ?_⟩
  have h3 := h2.2
  rw [Array.getElem?_eq_getElem hlt] at h3
  simp only [Option.map_some, Option.getD_some, Array.all_eq_true'] at h3
  have := h3 e (by simpa using he)
  simpa [hb] using this

theorem ready_closed {md : Region.Mode} {ops : Array Oper} {listed : Array Bool} (hd : edgesDown 0 ops.toList = true) (hc : Closed ops.toList listed) {i : Nat} (h : i ∈ Region.ready md ops listed) :
    ∀ k, ((befs ops.toList []).getD i 0).testBit k = true → listed.getD k false = true := by
  obtain ⟨hlt, _, o, ho, he⟩ := ready_mem h
  intro k hk
  have ho' : ops.toList[i]? = some o := by simpa using ho
  rw [mask_at ops.toList i o ho'] at hk
  obtain ⟨e, hm, hb, h1⟩ := maskOf_spec _ _ k hk
  have hel := he e hm (binds_any hb md)
  rcases h1 with h1 | h1
  · subst h1; exact hel
  · have hdn := edgesDown_spec ops.toList 0 hd i o ho' e hm hb
    rw [Nat.zero_add] at hdn
    rw [List.getD_eq_getElem?_getD, List.getElem?_take, if_pos hdn, ← List.getD_eq_getElem?_getD] at h1
    exact hc e.on hel k h1

theorem topoB_ready {md : Region.Mode} {ops : Array Oper} {listed : Array Bool} (hsz : listed.size = ops.size) : ∀ (l done : List Nat), topoB md ops l done = true → (∀ x ∈ done, listed.getD x false = true) →
    (∃ x ∈ l, listed.getD x false = false) → Region.ready md ops listed ≠ []
  | [], done, _, _, ⟨x, hx, _⟩ => by cases hx
  | i :: r, done, h, hd, ⟨x, hx, hn⟩ => by
    simp only [topoB, Bool.and_eq_true, Bool.not_eq_true'] at h
    cases hl : listed.getD i false with
    | true =>
      refine topoB_ready hsz r (i :: done) h.2 (fun y hy => ?_) ?_
      · rcases List.mem_cons.1 hy with rfl | hy
        · exact hl
        · exact hd y hy
      · rcases List.mem_cons.1 hx with rfl | hx
        · rw [hn] at hl; cases hl
        · exact ⟨x, hx, hn⟩
    | false =>
      have h2 := h.1.2
      split at h2
      · rename_i o ho
        have hlt : i < ops.size := (Array.getElem?_eq_some_iff.1 ho).1
        have hmem : i ∈ Region.ready md ops listed := by
          unfold Region.ready
          rw [List.mem_filter]
          refine ⟨List.mem_range.2 hlt, ?_⟩
          simp only [Bool.and_eq_true, Bool.not_eq_true']
          refine ⟨?_, ?_⟩
          · rw [Array.getD_eq_getD_getElem?, Array.getElem?_eq_getElem (by omega)] at hl ⊢
            simpa using hl
          · rw [ho]
            simp only [Option.map_some, Option.getD_some, Array.all_eq_true']
            intro e he
            rw [List.all_eq_true] at h2
            have := h2 e (by simpa using he)
            rw [Bool.or_eq_true] at this ⊢
            rcases this with h3 | h3
            · exact .inl h3
            · exact .inr (hd _ ((memb_iff _ _).1 h3))
        intro hnil
        rw [hnil] at hmem
        cases hmem
      · cases h2

theorem allIn_spec : ∀ (n : Nat) (l : List Nat), allIn n l = true → ∀ i, i < n → i ∈ l
  | 0, _, _, i, h => by omega
  | n + 1, l, h, i, hi => by
    simp only [allIn, Bool.and_eq_true] at h
    rcases Nat.lt_or_ge i n with h1 | h1
    · exact allIn_spec n l h.2 i h1
    · have : i = n := by omega
      subst this
      exact (memb_iff _ _).1 h.1

theorem lastOk_spec (mask : Nat) : ∀ (n : Nat), lastOk mask n = true → ∀ i, i < n → mask.testBit i = true
  | 0, _, i, h => by omega
  | n + 1, h, i, hi => by
    simp only [lastOk, Bool.and_eq_true] at h
    rcases Nat.lt_or_ge i n with h1 | h1
    · exact lastOk_spec mask n h.2 i h1
    · have : i = n := by omega
      subst this
      exact h.1

theorem ordRow_spec (ops : List Oper) (masks : List Nat) (j : Nat) (looks : List Nat) : ∀ (l : List Oper) (k : Nat), ordRow ops masks j looks k l = true → ∀ (i : Nat) x d, l[i]? = some x → x.dst = some d → k + i ≠ j → d ∈ looks →
    (masks.getD j 0).testBit (k + i) = true ∨ (masks.getD (k + i) 0).testBit j = true
  | [], k, _, i, x, d, h, _, _, _ => by simp at h
  | y :: r, k, h, i, x, d, hi, hx, hne, hd => by
    simp only [ordRow, Bool.and_eq_true] at h
    cases i with
    | zero =>
      simp only [List.getElem?_cons_zero, Option.some.injEq] at hi
      subst hi
      have h1 := h.1
      rw [hx] at h1
      simp only [(memb_iff d looks).2 hd, Bool.not_true, Bool.false_or, Bool.or_eq_true] at h1
      rcases h1 with h1 | h1
      · exact absurd (Nat.eq_of_beq_eq_true h1) hne
      · exact h1
    | succ i =>
      have := ordRow_spec ops masks j looks r (k + 1) h.2 i x d (by simpa using hi) hx (by omega) hd
      rwa [show k + 1 + i = k + (i + 1) by omega] at this

theorem ordOk_spec (ops : List Oper) (masks : List Nat) : ∀ (l : List Oper) (k : Nat), ordOk ops masks k l = true → ∀ (j : Nat) y, l[j]? = some y → ∀ (i : Nat) x d, ops[i]? = some x → x.dst = some d → i ≠ k + j → Operand.tmp d ∈ y.op.operands.toList →
    (masks.getD (k + j) 0).testBit i = true ∨ (masks.getD i 0).testBit (k + j) = true
  | [], k, _, j, y, h, _, _, _, _, _, _, _ => by simp at h
  | z :: r, k, h, j, y, hj, i, x, d, hi, hx, hne, hm => by
    simp only [ordOk, Bool.and_eq_true] at h
    cases j with
    | zero =>
      simp only [List.getElem?_cons_zero, Option.some.injEq] at hj
      subst hj
      have hmem : ∀ (l : List Operand), Operand.tmp d ∈ l → d ∈ tmpsOf l := by
        intro l
        induction l with
        | nil => intro h; cases h
        | cons a r ih =>
          intro h
          rcases List.mem_cons.1 h with rfl | h
          · simp [tmpsOf]
          · have := ih h
            cases a <;> simp [tmpsOf, this]
      have := ordRow_spec ops masks k _ ops 0 h.1 i x d hi hx (by omega) (hmem _ hm)
      simpa using this
    | succ j =>
      have := ordOk_spec ops masks r (k + 1) h.2 j y (by simpa using hj) i x d hi hx (by omega) hm
      rwa [show k + 1 + j = k + (j + 1) by omega] at this

theorem optsL_mem : ∀ (l : List Oper) (d : Nat), d ∈ optsL l ↔ ∃ (i : Nat) (o : Oper), l[i]? = some o ∧ o.dst = some d
  | [], d => by simp [optsL]
  | x :: r, d => by
    have ih := optsL_mem r d
    unfold optsL
    cases hx : x.dst with
    | none =>
      simp only
      rw [ih]
      constructor
      · rintro ⟨i, o, h1, h2⟩; exact ⟨i + 1, o, by simpa using h1, h2⟩
      · rintro ⟨i, o, h1, h2⟩
        cases i with
        | zero => simp only [List.getElem?_cons_zero, Option.some.injEq] at h1; subst h1; rw [hx] at h2; cases h2
        | succ i => exact ⟨i, o, by simpa using h1, h2⟩
    | some e =>
      simp only [List.mem_cons, ih]
      constructor
      · rintro (rfl | ⟨i, o, h1, h2⟩)
        · exact ⟨0, x, rfl, hx⟩
        · exact ⟨i + 1, o, by simpa using h1, h2⟩
      · rintro ⟨i, o, h1, h2⟩
        cases i with
        | zero => simp only [List.getElem?_cons_zero, Option.some.injEq] at h1; subst h1; rw [hx] at h2; cases h2; exact .inl rfl
        | succ i => exact .inr ⟨i, o, by simpa using h1, h2⟩

theorem nodup_opts : ∀ (l : List Oper), nodupB (optsL l) = true → ∀ (i j : Nat) (x y : Oper) (d : Nat), l[i]? = some x → l[j]? = some y → x.dst = some d → y.dst = some d → i = j
  | [], _, i, j, x, y, d, h, _, _, _ => by simp at h
  | a :: r, hn, i, j, x, y, d, hi, hj, hx, hy => by
    have hr : nodupB (optsL r) = true ∧ ∀ e, a.dst = some e → e ∉ optsL r := by
      unfold optsL at hn
      cases ha : a.dst with
      | none => rw [ha] at hn; exact ⟨hn, fun e he => by cases he⟩
      | some e =>
        rw [ha] at hn
        simp only [nodupB, Bool.and_eq_true, Bool.not_eq_true'] at hn
        refine ⟨hn.2, fun e' he hm => ?_⟩
        cases he
        rw [(memb_iff _ _).2 hm] at hn
        cases hn.1
    cases i with
    | zero =>
      simp only [List.getElem?_cons_zero, Option.some.injEq] at hi
      subst hi
      cases j with
      | zero => rfl
      | succ j => exact absurd ((optsL_mem r d).2 ⟨j, y, by simpa using hj, hy⟩) (hr.2 d hx)
    | succ i =>
      cases j with
      | zero =>
        simp only [List.getElem?_cons_zero, Option.some.injEq] at hj
        subst hj
        exact absurd ((optsL_mem r d).2 ⟨i, x, by simpa using hi, hx⟩) (hr.2 d hy)
      | succ j => exact congrArg (· + 1) (nodup_opts r hr.1 i j x y d (by simpa using hi) (by simpa using hj) hx hy)

section
variable {V : Env} (hV : EnvOk V) {R : Type} {T : Tab R} (hT : ∀ f mode F, T f = some (mode, F) → Good V.P f mode F) (nt : Nat)

include hV hT in
theorem evD_spec : ∀ (l : List Oper) (s : St) (K : St → Option R) (r : R), evD T V nt l s K = some r → nodupB (optsL l) = true → ∃ sf, K sf = some r ∧ (∀ j, look sf.H j = look s.H j) ∧
    (∀ t, t ∉ optsL l → sf.get t = s.get t) ∧ ∀ (i : Nat) o, l[i]? = some o → ∃ si d, o.dst = some d ∧ d < nt ∧ o.guard = none ∧ (∀ j, look si.H j = look s.H j) ∧
      (∀ t, si.get t = if t ∈ optsL (l.take i) then sf.get t else s.get t) ∧ StepD V.P nt si o (sf.get d)
  | [], s, K, r, h, _ => ⟨s, h, fun _ => rfl, fun _ _ => rfl, fun i o hi => by simp at hi⟩
  | o :: l, s, K, r, h, hn => by
    unfold evD at h
    split at h
    · rename_i d hd hg
      cases hlt : Nat.blt d nt with
      | false => rw [hlt] at h; cases h
      | true =>
        rw [hlt] at h
        simp only [cond_true] at h
        obtain ⟨av, h1, hstep⟩ := dstep_sound hV hT nt s o _ r h
        have hnd : d ∉ optsL l ∧ nodupB (optsL l) = true := by
          unfold optsL at hn
          rw [hd] at hn
          simp only [nodupB, Bool.and_eq_true, Bool.not_eq_true'] at hn
          refine ⟨fun hm => ?_, hn.2⟩
          rw [(memb_iff _ _).2 hm] at hn
          cases hn.1
        obtain ⟨sf, hK, hH, hg', hops⟩ := evD_spec l (s.put d av) K r h1 hnd.2
        have hopts : optsL (o :: l) = d :: optsL l := by show (match o.dst with | some d => d :: optsL l | none => optsL l) = _; rw [hd]
        have hav : sf.get d = av := by rw [hg' d hnd.1, get_put]; simp
        refine ⟨sf, hK, hH, fun t ht => ?_, fun i o' hi => ?_⟩
        · rw [hopts, List.mem_cons, not_or] at ht
          rw [hg' t ht.2, get_put, if_neg (fun e => ht.1 e.symm)]
        · cases i with
          | zero =>
            simp only [List.getElem?_cons_zero, Option.some.injEq] at hi
            subst hi
            exact ⟨s, d, hd, by simpa using hlt, hg, fun _ => rfl, fun t => by simp [optsL], by rw [hav]; exact hstep⟩
          | succ i =>
            obtain ⟨si, d', h2, h3, h4, h5, h6, h7⟩ := hops i o' (by simpa using hi)
            refine ⟨si, d', h2, h3, h4, h5, fun t => ?_, h7⟩
            have htk : optsL ((o :: l).take (i + 1)) = d :: optsL (l.take i) := by
              show (match o.dst with | some d => d :: optsL (l.take i) | none => optsL (l.take i)) = _
              rw [hd]
            rw [h6 t, htk]
            by_cases hm : t ∈ optsL (l.take i)
            · simp [hm]
            · by_cases hte : t = d
              · subst hte
                simp only [hm, if_false, List.mem_cons, true_or, if_true, get_put]
                exact hav.symm
              · simp only [hm, if_false, List.mem_cons, hte, false_or, get_put]
                rw [if_neg (fun e => hte e.symm)]
    · cases h

theorem countP_lt (p q : Nat → Bool) : ∀ (l : List Nat), (∀ j, p j = true → q j = true) → (∃ i ∈ l, p i = false ∧ q i = true) → l.countP p < l.countP q
  | [], _, ⟨i, hi, _⟩ => by cases hi
  | a :: r, hpq, ⟨i, hi, h1, h2⟩ => by
    have hle : r.countP p ≤ r.countP q := List.countP_mono_left fun x _ hx => hpq x hx
    rw [List.countP_cons, List.countP_cons]
    rcases List.mem_cons.1 hi with rfl | hi
    · simp only [h1, h2, Bool.false_eq_true, if_false, if_true]
      omega
    · have ih := countP_lt p q r hpq ⟨i, hi, h1, h2⟩
      cases ha : p a with
      | false => simp only [Bool.false_eq_true, if_false]; split <;> omega
      | true => simp only [hpq a ha, if_true]; omega

open Classical in
/-- The slots when the operations listed have run. -/
noncomputable def slotAt (ops : List Oper) (m : Nat) (listed : Array Bool) (s sf : St) (t : Nat) : AV :=
  if ∃ i, i < m ∧ listed.getD i false = true ∧ ∃ o, ops[i]? = some o ∧ o.dst = some t then sf.get t else s.get t

theorem listed_set {listed : Array Bool} {i j : Nat} (hi : i < listed.size) : (listed.setIfInBounds i true).getD j false = (decide (i = j) || listed.getD j false) := by
  simp only [Array.getD_eq_getD_getElem?, Array.getElem?_setIfInBounds]
  by_cases h : i = j
  · subst h; simp [hi]
  · simp [h]

theorem getD_tf {listed : Array Bool} {i : Nat} (h : listed.getD i true = false) : listed.getD i false = false := by
  rw [Array.getD_eq_getD_getElem?] at *
  cases hx : listed[i]? with
  | none => rfl
  | some b => rw [hx] at h; exact h

include hV hT in
theorem evDraw_sound (A : Ann) (last : Nat → Bool) (ops : Array Oper) (s : St) (K : St → Option R) (r : R) (hc : evDraw T V A last nt ops s K = some r) : ∃ s', K s' = some r ∧ RegOk V.P nt ops s s' := by
  unfold evDraw at hc
  simp only at hc
  generalize isLastOf last ops = isLast at hc
  generalize hm : mOf isLast ops.size = m at hc
  cases h1 : (edgesDown 0 ops.toList && ordOk (ops.toList.take m) (befs ops.toList []) 0 (ops.toList.take m) && topoOk ops && nodupB (optsL (ops.toList.take m)) && (!isLast || (lastOk ((befs ops.toList []).getD m 0) m && Nat.blt m ops.size))) with
  | false => rw [h1] at hc; cases hc
  | true =>
    rw [h1] at hc
    simp only [cond_true] at hc
    simp only [Bool.and_eq_true] at h1
    obtain ⟨⟨⟨⟨hdown, hord⟩, htopo⟩, hnodup⟩, hlast⟩ := h1
    obtain ⟨sf, hK, hH, hget, hops⟩ := evD_spec hV hT nt _ s _ r hc hnodup
    have hml : m ≤ ops.size := by rw [← hm]; cases isLast <;> simp [mOf]
    -- where the last operation turns memory, it comes behind all others
    have hlast' : isLast = true → m < ops.size ∧ ∀ i, i < m → ((befs ops.toList []).getD m 0).testBit i = true := fun h => by
      rw [h] at hlast
      simp only [Bool.not_true, Bool.false_or, Bool.and_eq_true] at hlast
      exact ⟨by simpa using hlast.2, lastOk_spec _ m hlast.1⟩
    have hm1 : isLast = true → m + 1 = ops.size := fun h => by have := (hlast' h).1; rw [← hm, h] at this ⊢; simp [mOf] at this ⊢; omega
    have hm0 : isLast = false → m = ops.size := fun h => by rw [← hm, h]; rfl
    -- what comes out
    have hout : ∃ s', K s' = some r ∧ (isLast = false → s' = sf) ∧ (isLast = true → ∃ o, ops[m]? = some o ∧ o.guard = none ∧ ∀ {w0 κ0 C0 hd0 g a w}, Rel nt w0 κ0 C0 hd0 g sf a w → ∀ {next : Act → World → Prop} {Q : Exit → Act → World → Prop},
        (∀ g' a' w', Rel nt w0 κ0 C0 hd0 g' s' a' w' → next a' w') → o.wp V.P a w next Q) := by
      cases hl : isLast with
      | false => rw [hl] at hK; exact ⟨sf, hK, fun _ => rfl, fun h => by cases h⟩
      | true =>
        rw [hl] at hK
        simp only [cond_true] at hK
        split at hK
        · rename_i o ho
          split at hK
          · rename_i hg
            obtain ⟨s', hK', hs⟩ := stepOp_sound hV hT A nt sf o K r hK
            exact ⟨s', hK', (fun h => by cases h), fun _ => ⟨o, ho, hg, fun {w0 κ0 C0 hd0 g a w} h {next Q} hn => hs h hn⟩⟩
          · cases hK
        · cases hK
    obtain ⟨s', hK', hs0, hs1⟩ := hout
    refine ⟨s', hK', fun {w0 κ0 C0 hd0 g a w} h id {Q} hn => ?_⟩
    -- every mode
    have htopo' : ∀ md, ∃ l, topoB md ops l [] = true ∧ ∀ i, i < ops.size → i ∈ l := by
      unfold topoOk at htopo
      simp only [Bool.and_eq_true] at htopo
      intro md
      cases md with
      | text => exact ⟨_, htopo.1.1.1, allIn_spec _ _ htopo.1.1.2⟩
      | gc => exact ⟨_, htopo.1.2.1, allIn_spec _ _ htopo.1.2.2⟩
      | any => exact ⟨_, htopo.2.1, allIn_spec _ _ htopo.2.2⟩
    have hops' : ∀ (i : Nat) o, i < m → ops[i]? = some o → (ops.toList.take m)[i]? = some o := fun i o hi ho => by
      rw [List.getElem?_take, if_pos hi]
      simpa using ho
    have full : ∀ {listed : Array Bool}, (∀ i, i < ops.size → listed.getD i false = true) → ∀ md, Region.ready md ops listed = [] := by
      intro listed hall md
      cases hr : Region.ready md ops listed with
      | nil => rfl
      | cons x xs =>
        have hx : x ∈ Region.ready md ops listed := by rw [hr]; simp
        obtain ⟨h1, h2, _⟩ := ready_mem hx
        have := hall x h1
        rw [getD_tf h2] at this
        cases this
    have main : ∀ (md : Region.Mode) (fuel : Nat) (listed : Array Bool) (a : Act) (w : World), listed.size = ops.size → Closed ops.toList listed → ops.size ≤ ((List.range ops.size).countP fun i => listed.getD i false) + fuel →
        (((isLast = true → listed.getD m false = false) ∧ ∃ g st, (∀ j, look st.H j = look s.H j) ∧ (∀ t, st.get t = slotAt ops.toList m listed s sf t) ∧ Rel nt w0 κ0 C0 hd0 g st a w) ∨
         ((∀ i, i < ops.size → listed.getD i false = true) ∧ ∃ g, Rel nt w0 κ0 C0 hd0 g s' a w)) → wpAny V.P md ops Q fuel listed a w := by
      intro md fuel
      -- all have run: the state is the one that comes out
      have hend : ∀ (listed : Array Bool) (a : Act) (w : World), (∀ i, i < ops.size → listed.getD i false = true) →
          (((isLast = true → listed.getD m false = false) ∧ ∃ g st, (∀ j, look st.H j = look s.H j) ∧ (∀ t, st.get t = slotAt ops.toList m listed s sf t) ∧ Rel nt w0 κ0 C0 hd0 g st a w) ∨
           ((∀ i, i < ops.size → listed.getD i false = true) ∧ ∃ g, Rel nt w0 κ0 C0 hd0 g s' a w)) → Q .normal a w := by
        intro listed a w hall hst
        rcases hst with ⟨hl, g, st, hsH, hsl, hr⟩ | ⟨_, g, hr⟩
        · cases hlb : isLast with
          | true =>
            have h2 := hall m (hlast' hlb).1
            rw [hl hlb] at h2
            cases h2
          | false =>
            have := hs0 hlb
            subst this
            refine hn g a w (hr.congr (fun t => ?_) fun j => (hH j).trans (hsH j).symm)
            rw [hsl t]
            unfold slotAt
            split
            · rfl
            · rename_i hno
              refine hget t fun hm' => hno ?_
              obtain ⟨i, o, h3, h4⟩ := (optsL_mem _ t).1 hm'
              rw [List.getElem?_take] at h3
              split at h3
              · rename_i hi; exact ⟨i, hi, hall i (by omega), o, h3, h4⟩
              · cases h3
        · exact hn g a w hr
      have notFull : ∀ (listed : Array Bool), listed.size = ops.size → Region.ready md ops listed = [] → ∀ i, i < ops.size → listed.getD i false = true := by
        intro listed hsz hr i hi
        cases hli : listed.getD i false with
        | true => rfl
        | false =>
          obtain ⟨l, hl1, hl2⟩ := htopo' md
          exact absurd hr (topoB_ready hsz l [] hl1 (fun x hx => by cases hx) ⟨i, hl2 i hi, hli⟩)
      induction fuel with
      | zero =>
        intro listed a w hsz hcl hcnt hst
        have hall : ∀ i, i < ops.size → listed.getD i false = true := by
          intro i hi
          have hle := List.countP_le_length (p := fun i => listed.getD i false) (l := List.range ops.size)
          rw [List.length_range] at hle
          have heq : (List.range ops.size).countP (fun i => listed.getD i false) = (List.range ops.size).length := by rw [List.length_range]; omega
          exact List.countP_eq_length.1 heq i (List.mem_range.2 hi)
        exact ⟨full hall md, hend listed a w hall hst⟩
      | succ fuel ih =>
        intro listed a w hsz hcl hcnt hst
        refine ⟨fun hr => hend listed a w (notFull listed hsz hr) hst, fun i hi => ?_⟩
        obtain ⟨hlt, hnl, o, ho, hpre⟩ := ready_mem hi
        have hpreds := ready_closed hdown hcl hi
        have hnl' := getD_tf hnl
        have hsz' : (listed.setIfInBounds i true).size = ops.size := by simpa using hsz
        have hset : ∀ j, (listed.setIfInBounds i true).getD j false = (decide (i = j) || listed.getD j false) := fun j => listed_set (by omega)
        have hcl' : Closed ops.toList (listed.setIfInBounds i true) := by
          intro j hj k hk
          rw [hset] at hj ⊢
          rw [Bool.or_eq_true] at hj ⊢
          rcases hj with hj | hj
          · have : i = j := by simpa using hj
            subst this
            exact .inr (hpreds k hk)
          · exact .inr (hcl j hj k hk)
        have hcnt' : ops.size ≤ ((List.range ops.size).countP fun j => (listed.setIfInBounds i true).getD j false) + fuel := by
          have : ((List.range ops.size).countP fun j => listed.getD j false) < ((List.range ops.size).countP fun j => (listed.setIfInBounds i true).getD j false) := by
            exact countP_lt _ _ (List.range ops.size) (fun j hj => by rw [hset, hj]; simp) ⟨i, List.mem_range.2 hlt, hnl', by rw [hset]; simp⟩
          omega
        rcases hst with ⟨hl, g, st, hsH, hsl, hr⟩ | ⟨hall, _⟩
        · unfold wpOp
          rw [ho]
          by_cases him : i < m
          · -- one of those that only write their slots
            obtain ⟨si, d, hd, hdn, hgd, hsiH, hsi, hstep⟩ := hops i o (hops' i o him ho)
            have hw : Region.wanted o (yielded ops a.tmps) = true := by simp [Region.wanted, hgd]
            simp only [hw, if_true]
            left
            have hdst : ∀ (j : Nat) y t, j < m → ops[j]? = some y → y.dst = some t → (∃ k, k < m ∧ listed.getD k false = true ∧ ∃ z, ops.toList[k]? = some z ∧ z.dst = some t) → listed.getD j false = true := by
              rintro j y t hj hy hyt ⟨k, hk, hkl, z, hz, hzt⟩
              have := nodup_opts _ hnodup j k y z t (hops' j y hj hy) (by rw [List.getElem?_take, if_pos hk]; exact hz) hyt hzt
              subst this
              exact hkl
            refine hstep st (fun x hx => ?_) (fun j => (hsH j).trans (hsiH j).symm) hr (fun d' hd' => by rw [hd] at hd'; cases hd'; exact hdn) fun g' a' w' hr' => ?_
            · cases x with
              | const v => rfl
              | global v => rfl
              | func f => rfl
              | tmp t =>
                show st.get t = si.get t
                rw [hsl t, hsi t]
                unfold slotAt
                by_cases hex : ∃ (j : Nat) (y : Oper), j < m ∧ ops[j]? = some y ∧ y.dst = some t
                · obtain ⟨j, y, hj, hy, hyt⟩ := hex
                  by_cases hji : j = i
                  · -- it looks at what it writes itself: not yet written
                    subst hji
                    have e1 : ¬ ∃ k, k < m ∧ listed.getD k false = true ∧ ∃ z, ops.toList[k]? = some z ∧ z.dst = some t := fun h3 => by
                      have := hdst j y t hj hy hyt h3
                      rw [hnl'] at this
                      cases this
                    have e2 : t ∉ optsL ((ops.toList.take m).take j) := fun hm' => by
                      obtain ⟨k, z, h3, h4⟩ := (optsL_mem _ t).1 hm'
                      rw [List.getElem?_take] at h3
                      split at h3
                      · rename_i hkj
                        have := nodup_opts _ hnodup j k y z t (hops' j y hj hy) h3 hyt h4
                        omega
                      · cases h3
                    rw [if_neg e1, if_neg e2]
                  · have hy' : (ops.toList.take m)[j]? = some y := hops' j y hj hy
                    have hor := ordOk_spec _ _ _ 0 hord i o (hops' i o him ho) j y t hy' hyt (by omega) (by simpa using hx)
                    rw [Nat.zero_add] at hor
                    rcases hor with hor | hor
                    · -- behind it
                      have hjl := hpreds j hor
                      have hji := mask_lt hdown i j hor
                      have e1 : ∃ k, k < m ∧ listed.getD k false = true ∧ ∃ z, ops.toList[k]? = some z ∧ z.dst = some t := ⟨j, hj, hjl, y, by simpa using hy, hyt⟩
                      have e2 : t ∈ optsL ((ops.toList.take m).take i) := (optsL_mem _ t).2 ⟨j, y, by rw [List.getElem?_take, if_pos hji]; exact hy', hyt⟩
                      rw [if_pos e1, if_pos e2]
                    · -- ahead of it
                      have hij := mask_lt hdown j i hor
                      have e1 : ¬ ∃ k, k < m ∧ listed.getD k false = true ∧ ∃ z, ops.toList[k]? = some z ∧ z.dst = some t := fun h3 => by
                        have h4 := hcl j (hdst j y t hj hy hyt h3) i hor
                        rw [hnl'] at h4
                        cases h4
                      have e2 : t ∉ optsL ((ops.toList.take m).take i) := fun hm' => by
                        obtain ⟨k, z, h3, h4⟩ := (optsL_mem _ t).1 hm'
                        rw [List.getElem?_take] at h3
                        split at h3
                        · rename_i hki
                          have := nodup_opts _ hnodup j k y z t hy' h3 hyt h4
                          omega
                        · cases h3
                      rw [if_neg e1, if_neg e2]
                · have e1 : ¬ ∃ k, k < m ∧ listed.getD k false = true ∧ ∃ z, ops.toList[k]? = some z ∧ z.dst = some t := fun ⟨k, hk, _, z, hz, hzt⟩ => hex ⟨k, z, hk, by simpa using hz, hzt⟩
                  have e2 : t ∉ optsL ((ops.toList.take m).take i) := fun hm' => by
                    obtain ⟨k, z, h3, h4⟩ := (optsL_mem _ t).1 hm'
                    rw [List.getElem?_take] at h3
                    split at h3
                    · rw [List.getElem?_take] at h3
                      split at h3
                      · rename_i hk; exact hex ⟨k, z, hk, by simpa using h3, h4⟩
                      · cases h3
                    · cases h3
                  rw [if_neg e1, if_neg e2]
            · refine ih _ a' w' hsz' hcl' hcnt' (.inl ⟨fun hlb => ?_, g', _, fun j => ?_, fun t => ?_, hr'⟩)
              · rw [hset, hl hlb]
                simp only [Bool.or_false, decide_eq_false_iff_not]
                omega
              · unfold E.putO
                rw [hd]
                exact hsH j
              · unfold E.putO
                rw [hd]
                simp only
                rw [get_put, hsl t]
                unfold slotAt
                by_cases hdt : d = t
                · subst hdt
                  have e1 : ∃ k, k < m ∧ (listed.setIfInBounds i true).getD k false = true ∧ ∃ z, ops.toList[k]? = some z ∧ z.dst = some d := ⟨i, him, by rw [hset]; simp, o, by simpa using ho, hd⟩
                  rw [if_pos rfl, if_pos e1]
                · rw [if_neg hdt]
                  have e1 : (∃ k, k < m ∧ listed.getD k false = true ∧ ∃ z, ops.toList[k]? = some z ∧ z.dst = some t) ↔ ∃ k, k < m ∧ (listed.setIfInBounds i true).getD k false = true ∧ ∃ z, ops.toList[k]? = some z ∧ z.dst = some t := by
                    constructor
                    · rintro ⟨k, hk, hkl, z, hz, hzt⟩; exact ⟨k, hk, by rw [hset, hkl]; simp, z, hz, hzt⟩
                    · rintro ⟨k, hk, hkl, z, hz, hzt⟩
                      refine ⟨k, hk, ?_, z, hz, hzt⟩
                      rw [hset, Bool.or_eq_true] at hkl
                      rcases hkl with hkl | hkl
                      · have hik : i = k := by simpa using hkl
                        subst hik
                        have : ops.toList[i]? = some o := by simpa using ho
                        rw [this] at hz
                        cases hz
                        rw [hd] at hzt
                        cases hzt
                        exact absurd rfl hdt
                      · exact hkl
                  by_cases hex : ∃ k, k < m ∧ listed.getD k false = true ∧ ∃ z, ops.toList[k]? = some z ∧ z.dst = some t
                  · rw [if_pos hex, if_pos (e1.1 hex)]
                  · rw [if_neg hex, if_neg fun h => hex (e1.2 h)]
          · -- the last one
            have hlb : isLast = true := by
              cases hlb : isLast with
              | true => rfl
              | false => have := hm0 hlb; omega
            have him' : i = m := by have := hm1 hlb; omega
            subst him'
            obtain ⟨o', ho', hgd, hwp⟩ := hs1 hlb
            rw [ho] at ho'
            cases ho'
            have hw : Region.wanted o (yielded ops a.tmps) = true := by simp [Region.wanted, hgd]
            simp only [hw, if_true]
            left
            have hall' : ∀ k, k < i → listed.getD k false = true := fun k hk => hpreds k ((hlast' hlb).2 k hk)
            have hrf : Rel nt w0 κ0 C0 hd0 g sf a w := hr.congr (fun t => by
              rw [hsl t]
              unfold slotAt
              split
              · rfl
              · rename_i hno
                refine hget t fun hm' => hno ?_
                obtain ⟨k, z, h3, h4⟩ := (optsL_mem _ t).1 hm'
                rw [List.getElem?_take] at h3
                split at h3
                · rename_i hk; exact ⟨k, hk, hall' k hk, z, h3, h4⟩
                · cases h3) fun j => (hH j).trans (hsH j).symm
            refine hwp hrf fun g' a' w' hr' => ih _ a' w' hsz' hcl' hcnt' (.inr ⟨fun k hk => ?_, g', hr'⟩)
            rw [hset]
            by_cases hki : i = k
            · simp [hki]
            · rw [hall' k (by have := hm1 hlb; omega)]
              simp
        · have := hall i hlt
          rw [hnl'] at this
          cases this
    have hstart : ∀ md, wpAny V.P md ops Q ops.size (Array.replicate ops.size false) a { w with drawn := w.drawn + 1 } := by
      intro md
      have hrep : ∀ j, (Array.replicate ops.size false).getD j false = false := fun j => by
        rw [Array.getD_eq_getD_getElem?, Array.getElem?_replicate]
        split <;> rfl
      refine main md ops.size _ a _ (by simp) (fun j hj => by rw [hrep] at hj; cases hj) (by omega) (.inl ⟨fun _ => hrep m, g, s, fun _ => rfl, fun t => ?_, ?_⟩)
      · unfold slotAt
        rw [if_neg]
        rintro ⟨k, _, hk, _⟩
        rw [hrep] at hk
        cases hk
      · exact (h.more (g' := g) (w' := { w with drawn := w.drawn + 1 }) rfl rfl rfl (Nat.le_refl _) (fun _ _ _ => rfl) (fun _ _ _ => rfl) (fun _ _ => rfl) h.ok.fresh rfl).2
    refine wp_region_draw fun t => ?_
    unfold Region.schedule
    split
    · exact wpAny_sound ops.size t _ a _ (hstart .any)
    · split
      · exact wpAny_sound ops.size _ _ a _ (hstart .text)
      · exact wpAny_sound ops.size _ _ a _ (hstart .gc)

end

end Go.Proofs.Ytmmadcccjicdcaa.E
