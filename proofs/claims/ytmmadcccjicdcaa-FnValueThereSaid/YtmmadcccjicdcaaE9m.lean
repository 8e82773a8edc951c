/- Regions whose order is drawn, with one call among their operations that turns an object. -/
import Derived.Test.YtmmadcccjicdcaaE9
namespace Go.Proofs.Ytmmadcccjicdcaa.E
set_option linter.unusedVariables false
set_option linter.unusedSimpArgs false

def okPure (s : St) (o : Oper) : Bool :=
  match o.op with
  | .load _ x => match evs s x with | .ref .. => false | _ => true
  | _ => true

def keepK (rid : Nat) : SV → SV := SV.killP (fun k => Nat.beq k rid) (fun _ => false)

def midRen (rid : Nat) : Nat → Option Nat := fun k => cond (Nat.blt k 1) (some rid) none

def midH (rid : Nat) (ty : TypeId) (cs : List SV) (H : List (Nat × Ob)) : List (Nat × Ob) := (rid, Ob.map (SV.ren (midRen rid)) (.cells ty cs)) :: mapH (keepK rid) H

/-- The one call that turns an object: its result and what the objects are then. -/
def midK {R : Type} (T : Tab R) (s : St) (o : Oper) (K : Nat → AV → List (Nat × Ob) → Option R) : Option R :=
  match o.op with
  | .call { callee := .value f, args, argTypes } =>
    match evs s f with
    | .clo fid [] =>
      match T fid with
      | some (mode, F) =>
        match argIds mode (args.toList.map (evs s)) with
        | [rid] =>
          match getObs s.H [rid] [rid] with
          | some [.cells ty0 cs0] =>
            cond (isNilL (bvIds mode (args.toList.map (evs s))) && Nat.blt rid 1000 && match look s.H rid with | some (.cells ..) => true | _ => false)
              (F ((args.toList.map (evs s)).map (argSV mode s.H [rid])) [.cells ty0 cs0] fun res objs2 =>
                match objs2 with
                | [.cells ty cs] => K rid (resAV (res.map (SV.ren (midRen rid)))) (midH rid ty cs s.H)
                | _ => none) none
          | _ => none
        | _ => none
      | _ => none
    | _ => none
  | _ => none

def evDM {R : Type} (T : Tab R) (V : Env) (nt : Nat) (q : Nat) : List Oper → Nat → St → (Nat → St → Option R) → Option R
  | [], rid, s, K => K rid s
  | o :: r, rid, s, K =>
    match o.dst, o.guard with
    | some d, none => cond (Nat.blt d nt)
      (cond (Nat.beq d q)
        (midK T s o fun rid v H2 => evDM T V nt q r rid ⟨(d, v) :: s.sl, H2⟩ K)
        (cond (okPure s o) (match opVal V s o with | some (c, v) => cond c (evDM T V nt q r rid (s.put d v) K) none | none => none) none)) none
    | _, _ => none

def AV.hP (rid : Nat) : AV → Bool
  | .s v => v.hP (fun k => Nat.beq k rid)
  | .tup vs => vs.any (SV.hP (fun k => Nat.beq k rid))
  | .agg vs => vs.any (SV.hP (fun k => Nat.beq k rid))

def slOk (rid : Nat) : List (Nat × AV) → Bool
  | [] => true
  | (_, v) :: r => !v.hP rid && slOk rid r

def midOf (last : Nat → Bool) : List Oper → Option Nat
  | [] => none
  | o :: r => match o.dst with | some d => cond (last (100000 + d)) (some d) (midOf last r) | none => midOf last r

def evDrawM {R : Type} (T : Tab R) (V : Env) (nt : Nat) (q : Nat) (ops : Array Oper) (s : St) (K : St → Option R) : Option R :=
  cond (edgesDown 0 ops.toList && ordOk ops.toList (befs ops.toList []) 0 ops.toList && topoOk ops && nodupB (optsL ops.toList) && memb q (optsL ops.toList))
    (evDM T V nt q ops.toList 0 s fun rid sf => cond (slOk rid s.sl && slOk rid sf.sl) (K sf) none) none

def evDrawX {R : Type} (T : Tab R) (V : Env) (A : Ann) (last : Nat → Bool) (nt : Nat) (ops : Array Oper) (s : St) (K : St → Option R) : Option R :=
  match midOf last ops.toList with
  | some q => evDrawM T V nt q ops s K
  | none => evDraw T V A last nt ops s K

def SameArr (H H' : List (Nat × Ob)) : Prop := ∀ j e E xs, look H j = some (.arr e E xs) ↔ look H' j = some (.arr e E xs)

theorem opVal_keep (V : Env) {s s' : St} (o : Oper) (hk : okPure s o = true) (he : ∀ x ∈ o.op.operands, ev s x = ev s' x) (hH : SameArr s.H s'.H) {r : Bool × AV} (h : opVal V s o = some r) : opVal V s' o = some r := by
  obtain ⟨dst, op, type, pos, after, guard⟩ := o
  have hv : ∀ x ∈ op.operands, evs s x = evs s' x := fun x hx => evs_congr (he x hx)
  have hb : ∀ d (x : Option Operand), (∀ y, x = some y → evs s y = evs s' y) → bnd s d x = bnd s' d x := by
    intro d x hx
    cases x with
    | none => rfl
    | some y => simp only [bnd, hx y rfl]
  cases op with
  | move x => rw [← h]; simp only [opVal, he x (by simp [Op.operands])]
  | assign x => rw [← h]; simp only [opVal, he x (by simp [Op.operands])]
  | nilCheck x => rw [← h]; simp only [opVal, hv x (by simp [Op.operands])]
  | pick c x y => rw [← h]; simp only [opVal, hv c (by simp [Op.operands]), he x (by simp [Op.operands]), he y (by simp [Op.operands])]
  | binOp op t x y yt => rw [← h]; simp only [opVal, hv x (by simp [Op.operands]), hv y (by simp [Op.operands])]
  | build t parts =>
    have : (parts.toList.map fun p => (p.1, evs s p.2)) = parts.toList.map fun p => (p.1, evs s' p.2) := List.map_congr_left fun p hp => by rw [hv p.2 (by simp only [Op.operands, List.mem_toArray]; exact List.mem_map_of_mem hp)]
    rw [← h]; simp only [opVal, this]
  | unOp op t x => rw [← h]; simp only [opVal, hv x (by simp [Op.operands])]
  | convert a b x =>
    have hx := hv x (by simp [Op.operands])
    simp only [opVal] at h ⊢
    rw [← hx]
    split at h
    · exact h
    · exact h
    · rename_i j hj
      split at h
      · rename_i e E xs hl
        rw [(hH j e E xs).1 hl]
        exact h
      · cases h
    · cases h
  | extract x i => rw [← h]; simp only [opVal, he x (by simp [Op.operands])]
  | fieldAddr t x f => rw [← h]; simp only [opVal, hv x (by simp [Op.operands])]
  | indexAddr t x i =>
    have hx := hv x (by simp [Op.operands])
    have hi := hv i (by simp [Op.operands])
    simp only [opVal] at h ⊢
    rw [← hx, ← hi]
    split at h
    · exact h
    · rename_i e E j k n h1 h2 h3
      simp only [h1] at *
      split at h
      · rename_i e' E' xs hl
        simp only [(hH j e' E' xs).1 hl]
        exact h
      · cases h
    · exact h
    · exact h
    · exact h
    · cases h
  | load t x =>
    have hx := hv x (by simp [Op.operands])
    simp only [okPure] at hk
    simp only [opVal] at h ⊢
    rw [← hx]
    split at h
    · exact h
    · rename_i j i hj
      rw [hj] at hk
      cases hk
    · exact h
    · exact h
    · cases h
  | index t x i => rw [← h]; simp only [opVal, hv x (by simp [Op.operands]), hv i (by simp [Op.operands])]
  | slice t x lo hi mx =>
    have h1 : ∀ d, bnd s d lo = bnd s' d lo := fun d => hb d lo fun y hy => hv y (by subst hy; simp [Op.operands])
    have h2 : ∀ d, bnd s d hi = bnd s' d hi := fun d => hb d hi fun y hy => hv y (by subst hy; simp [Op.operands])
    rw [← h]
    simp only [opVal, hv x (by simp [Op.operands]), h1, h2]
  | makeFunc f first caps =>
    have : caps.toList.map (evs s) = caps.toList.map (evs s') := List.map_congr_left fun x hx => hv x (by simp only [Op.operands, Array.mem_append]; exact .inr (by simpa using hx))
    rw [← h]
    simp only [opVal, this]
  | call c =>
    obtain ⟨callee, args, argTypes⟩ := c
    cases callee with
    | value f => cases h
    | invoke r m => cases h
    | builtin b =>
      have ha : ∀ x ∈ args.toList, evs s x = evs s' x := fun x hx => hv x (by simp only [Op.operands, Call.operands, Array.mem_append]; exact .inr (by simpa using hx))
      simp only [opVal] at h ⊢
      split at h
      · rename_i x hx
        have hx' := ha x (by rw [hx]; simp)
        rw [← hx']
        split at h
        · exact h
        · exact h
        · exact h
        · exact h
        · rename_i j hj
          split at h
          · rename_i e E xs hl
            simp only [(hH j _ _ _).1 hl]
            exact h
          · cases h
        · cases h
      · rename_i x y hx
        rw [← ha x (by rw [hx]; simp), ← ha y (by rw [hx]; simp)]
        exact h
      · rename_i x y hx
        rw [← ha x (by rw [hx]; simp), ← ha y (by rw [hx]; simp)]
        exact h
      · cases h
  | _ => cases h

theorem SameArr.refl (H : List (Nat × Ob)) : SameArr H H := fun _ _ _ _ => Iff.rfl
theorem SameArr.symm {H H' : List (Nat × Ob)} (h : SameArr H H') : SameArr H' H := fun j e E xs => (h j e E xs).symm
theorem SameArr.trans {H H' H'' : List (Nat × Ob)} (h : SameArr H H') (h' : SameArr H' H'') : SameArr H H'' := fun j e E xs => (h j e E xs).trans (h' j e E xs)
theorem SameArr.of_look {H H' : List (Nat × Ob)} (h : ∀ j, look H j = look H' j) : SameArr H H' := fun j e E xs => by rw [h j]

def StepE (P : Program) (nt : Nat) (s : St) (o : Oper) (av : AV) : Prop :=
  ∀ s1, (∀ x ∈ o.op.operands, ev s1 x = ev s x) → SameArr s.H s1.H → ∀ {w0 κ0 C0 hd0 g a w}, Rel nt w0 κ0 C0 hd0 g s1 a w → (∀ d, o.dst = some d → d < nt) →
    ∀ {next : Act → World → Prop} {Q : Exit → Act → World → Prop}, (∀ g' a' w', Rel nt w0 κ0 C0 hd0 g' (putO s1 o.dst av) a' w' → next a' w') → o.wp P a w next Q

def StepM (P : Program) (nt : Nat) (rid : Nat) (H : List (Nat × Ob)) (s : St) (o : Oper) (d : Nat) (av : AV) (H2 : List (Nat × Ob)) : Prop :=
  ∀ s1, (∀ x ∈ o.op.operands, ev s1 x = ev s x) → (∀ j, look s1.H j = look H j) → (∀ t, (s1.get t).hP rid = false) → ∀ {w0 κ0 C0 hd0 g a w}, Rel nt w0 κ0 C0 hd0 g s1 a w → d < nt →
    ∀ {next : Act → World → Prop} {Q : Exit → Act → World → Prop}, (∀ g' a' w', Rel nt w0 κ0 C0 hd0 g' ⟨(d, av) :: s1.sl, H2⟩ a' w' → next a' w') → o.wp P a w next Q

theorem anyP_false : ∀ l : List Nat, anyP (fun _ => false) l = false
  | [] => rfl
  | _ :: r => anyP_false r

theorem dP_false (v : SV) : v.dP (fun _ => false) = false := by
  cases v with
  | ea ow => cases ow <;> rfl
  | clo c caps => exact anyP_false caps
  | _ => rfl

theorem keepK_eq {rid : Nat} {v : SV} (h : v.hP (fun k => Nat.beq k rid) = false) : keepK rid v = v := by
  unfold keepK SV.killP
  rw [h, dP_false]
  rfl

theorem keepKs_eq {rid : Nat} : ∀ {vs : List SV}, vs.any (SV.hP (fun k => Nat.beq k rid)) = false → vs.map (keepK rid) = vs
  | [], _ => rfl
  | v :: r, h => by
    simp only [List.any_cons, Bool.or_eq_false_iff] at h
    rw [List.map_cons, keepK_eq h.1, keepKs_eq h.2]

theorem AV.keep_eq {rid : Nat} {v : AV} (h : v.hP rid = false) : v.map (keepK rid) = v := by
  cases v with
  | s v => exact congrArg AV.s (keepK_eq h)
  | tup vs => exact congrArg AV.tup (keepKs_eq h)
  | agg vs => exact congrArg AV.agg (keepKs_eq h)

theorem slOk_get {rid : Nat} : ∀ {l : List (Nat × AV)} {H : List (Nat × Ob)}, slOk rid l = true → ∀ t, ((St.mk l H).get t).hP rid = false
  | [], H, _, t => rfl
  | (u, v) :: r, H, h, t => by
    simp only [slOk, Bool.and_eq_true, Bool.not_eq_true'] at h
    have ih := slOk_get (H := H) h.2 t
    unfold St.get at *
    rw [look_cons]
    by_cases hu : u = t
    · rw [if_pos hu]; exact h.1
    · rw [if_neg hu]; exact ih

theorem argSV_congrT {H H' : List (Nat × Ob)} (h : look H = look H') (mode : Bool) (ids : List Nat) : argSV mode H ids = argSV mode H' ids := by
  funext sv
  cases sv <;> simp [argSV, h]

theorem isNewN_zero (d k : Nat) : isNewN d 0 k = false := by
  cases h : isNewN d 0 k with
  | false => rfl
  | true => have := (isNewN_iff d 0 k).1 h; omega

theorem mid_ren (rid d : Nat) : (fun k => cond (Nat.blt k [Ob.cells 0 []].length) (some (invOf [rid] d k)) none) = midRen rid := by
  funext k
  cases k with
  | zero => rfl
  | succ k => rfl

theorem afterCall_mid (mode : Bool) (s : St) (d rid : Nat) (res : List SV) (ty : TypeId) (cs : List SV) (hc : isArr s.H rid = false) :
    afterCall mode s (some d) [rid] res [.cells ty cs] = ⟨(d, resAV (res.map (SV.ren (midRen rid)))) :: mapSl (keepK rid) s.sl, midH rid ty cs s.H⟩ := by
  have h1 : (fun k => cond (Nat.blt k [Ob.cells ty cs].length) (some (invOf [rid] (dOf (some d)) k)) none) = midRen rid := mid_ren rid d
  have h2 : (fun k => memb k [rid] || isNewN d 0 k) = fun k => Nat.beq k rid := by
    funext k
    rw [isNewN_zero, Bool.or_false]
    cases h : memb k [rid] with
    | true => have := (memb_iff _ _).1 h; simp only [List.mem_singleton] at this; subst this; exact (Nat.beq_refl _).symm
    | false =>
      cases h' : Nat.beq k rid with
      | false => rfl
      | true => have := Nat.eq_of_beq_eq_true h'; subst this; rw [(memb_iff _ _).2 (by simp)] at h; cases h
  have h3 : (fun k => isNewN d 0 k || (memb k [rid] && isArr s.H k && !mode)) = fun _ => false := by
    funext k
    rw [isNewN_zero]
    cases h : memb k [rid] with
    | false => rfl
    | true =>
      have := (memb_iff _ _).1 h
      simp only [List.mem_singleton] at this
      subst this
      rw [hc]
      rfl
  show (putO ⟨mapSl (SV.killP (fun k => memb k [rid] || isNewN d 0 k) (fun k => isNewN d 0 k || (memb k [rid] && isArr s.H k && !mode))) s.sl, _ ++ mapH (SV.killP (fun k => memb k [rid] || isNewN d 0 k) (fun k => isNewN d 0 k || (memb k [rid] && isArr s.H k && !mode))) s.H⟩ (some d) _) = _
  rw [h1, h2, h3]
  rfl

section
variable {V : Env} (hV : EnvOk V) {R : Type} {T : Tab R} (hT : ∀ f mode F, T f = some (mode, F) → Good V.P f mode F) (nt : Nat)

include hV in
theorem pure_sound (s : St) (o : Oper) (v : AV) (hk : okPure s o = true) (hv : opVal V s o = some (true, v)) : StepE V.P nt s o v := by
  intro s1 he hH w0 κ0 C0 hd0 g a w h hd next Q hn
  obtain ⟨u, hr, hrep⟩ := opVal_sound hV h o v (opVal_keep V o hk (fun x hx => (he x hx).symm) hH hv)
  exact wp_value hr (hn g _ _ (h.putO o.dst hd hrep))

include hT in
theorem midK_sound (s : St) (o : Oper) (d : Nat) (ho : o.dst = some d) (K : Nat → AV → List (Nat × Ob) → Option R) (r : R) (hc : midK T s o K = some r) :
    ∃ rid av H2, K rid av H2 = some r ∧ SameArr s.H H2 ∧ StepM V.P nt rid s.H s o d av H2 := by
  unfold midK at hc
  split at hc
  · rename_i f args argTypes hop
    split at hc
    · rename_i fid hf
      split at hc
      · rename_i mode F hT'
        split at hc
        · rename_i rid hids
          split at hc
          · rename_i ty0 cs0 hobs
            cases h1 : (isNilL (bvIds mode (args.toList.map (evs s))) && Nat.blt rid 1000 && match look s.H rid with | some (.cells ..) => true | _ => false) with
            | false => rw [h1] at hc; cases hc
            | true =>
              rw [h1] at hc
              simp only [cond_true] at hc
              simp only [Bool.and_eq_true] at h1
              obtain ⟨res, objs2, hK, hfacts⟩ := hT fid mode F hT' _ _ _ _ hc
              split at hK
              · rename_i ty cs
                have hbv := isNilL_spec h1.1.1
                have hrid : rid < 1000 := by simpa using h1.1.2
                have hcell : ∃ ty1 cs1, look s.H rid = some (.cells ty1 cs1) := by
                  have h2 := h1.2
                  split at h2
                  · rename_i ty1 cs1 hl; exact ⟨ty1, cs1, hl⟩
                  · cases h2
                obtain ⟨ty1, cs1, hcell⟩ := hcell
                refine ⟨rid, _, _, hK, ?_, ?_⟩
                · intro j e E xs
                  unfold midH
                  rw [look_cons, mapH_look]
                  by_cases hj : rid = j
                  · subst hj
                    rw [if_pos rfl, hcell]
                    simp [Ob.map]
                  · rw [if_neg hj]
                    cases look s.H j with
                    | none => simp
                    | some ob => cases ob <;> simp [Ob.map]
                · intro s1 he hH hsl w0 κ0 C0 hd0 g a w h hd next Q hn
                  have hev : ∀ x ∈ o.op.operands, evs s1 x = evs s x := fun x hx => evs_congr (he x hx)
                  have hargs : args.toList.map (evs s1) = args.toList.map (evs s) := List.map_congr_left fun x hx => hev x (by rw [hop]; simp only [Op.operands, Call.operands, Array.mem_append]; exact .inr (by simpa using hx))
                  have hfv : a.eval f = .func (.func fid) #[] #[] := by
                    have := evs_of h ((hev f (by rw [hop]; simp [Op.operands, Call.operands])).trans hf)
                    exact this
                  have hl1 : look s1.H = look s.H := funext hH
                  have hobs1 : getObs s1.H [rid] [rid] = some [.cells ty0 cs0] := by
                    rw [← hobs]
                    simp only [getObs, hl1]
                  obtain ⟨hol, hob⟩ := getObs_spec s1.H _ _ _ hobs1
                  have hcall := hfacts (g.inner [rid] []) (args.map a.eval).toList w (fun b hb => by simp only [G.inner, h.ok.fresh b hb]) (fun k ob hk => by
                      have hkl : k < [rid].length := by rw [← hol]; exact (List.getElem?_eq_some_iff.1 hk).1
                      obtain ⟨ob0, hl, ho⟩ := hob k _ (List.getElem?_eq_getElem hkl)
                      rw [ho] at hk
                      cases hk
                      exact ob_inner h _ _ rfl (List.getElem?_eq_getElem hkl) hl) (by simp) (fun i sv hi => by
                    rw [List.getElem?_map] at hi
                    cases hx : (args.toList.map (evs s))[i]? with
                    | none => rw [hx] at hi; cases hi
                    | some u =>
                      rw [hx] at hi
                      cases hi
                      have hx1 := hx
                      rw [← hargs, List.getElem?_map] at hx1
                      cases hy : args.toList[i]? with
                      | none => rw [hy] at hx1; cases hx1
                      | some y =>
                        rw [hy] at hx1
                        cases hx1
                        have hr := evs_rep h y
                        have hv : (args.map a.eval).toList.getD i undef = a.eval y := by
                          rw [List.getD_eq_getElem?_getD, Array.toList_map, List.getElem?_map, hy]
                          rfl
                        rw [hv, ← argSV_congrT hl1 mode]
                        exact arg_inner h mode [rid] [] rfl _ _ hr fun j hj hm => by
                          have := bv_mem mode _ j (by rw [← hj]; exact List.mem_of_getElem? hx) hm
                          rw [hbv] at this
                          cases this) (by simp)
                  have hcore := call_core h (fid := fid) mode [rid] [] (some d) rfl (by
                      simp only [anyP]
                      cases hn : isNew (dOf (some d)) rid with
                      | false => rfl
                      | true => have := (isNew_iff _ _).1 hn; omega) hobs1 (res := res) (objs2 := [.cells ty cs]) (by simp) (by simp) (.inr rfl) (by intro d' hd'; cases hd'; exact hd) hcall
                  have hnarr : isArr s1.H rid = false := by
                    unfold isArr
                    rw [hl1, hcell]
                  refine calls_wp (fid := fid) (vals := args.map a.eval) (by simp [execOp, hop, resolve, hfv, Deferred.ofValue, invoke]) ?_
                  rw [Array.toArray_toList] at hcore
                  refine hcore.mono fun v w' ⟨g2, hr⟩ => ?_
                  rw [ho]
                  refine hn g2 _ _ (hr.congr (fun t => ?_) fun j => ?_)
                  · rw [afterCall_mid _ _ _ _ _ _ _ hnarr]
                    have hk := hsl t
                    unfold St.get at hk ⊢
                    simp only [look_cons]
                    by_cases hdt : d = t
                    · simp only [if_pos hdt]
                    · simp only [if_neg hdt]
                      rw [mapSl_look]
                      cases hx : look s1.sl t with
                      | none => rfl
                      | some v => rw [hx] at hk; exact (AV.keep_eq hk).symm
                  · rw [afterCall_mid _ _ _ _ _ _ _ hnarr]
                    unfold midH
                    simp only [look_cons, mapH_look, hl1]
              · cases hK
          · cases hc
        · cases hc
      · cases hc
    · cases hc
  · cases hc

theorem StepM.congr {P : Program} {nt rid : Nat} {H : List (Nat × Ob)} {s : St} {o : Oper} {d : Nat} {av : AV} {H2 H3 : List (Nat × Ob)} (h : StepM P nt rid H s o d av H2) (he : ∀ j, look H3 j = look H2 j) : StepM P nt rid H s o d av H3 :=
  fun s1 h1 h2 h3 {w0 κ0 C0 hd0 g a w} hr hd {next Q} hn => h s1 h1 h2 h3 hr hd fun g' a' w' hr' => hn g' a' w' (hr'.congr (fun t => rfl) he)

include hV hT in
theorem evDM_spec (q : Nat) : ∀ (l : List Oper) (rid0 : Nat) (s : St) (K : Nat → St → Option R) (r : R), evDM T V nt q l rid0 s K = some r → nodupB (optsL l) = true → ∃ rid sf, K rid sf = some r ∧ SameArr s.H sf.H ∧
    (q ∉ optsL l → rid = rid0 ∧ ∀ j, look sf.H j = look s.H j) ∧ (∀ t, t ∉ optsL l → sf.get t = s.get t) ∧ ∀ (i : Nat) o, l[i]? = some o → ∃ si d, o.dst = some d ∧ d < nt ∧ o.guard = none ∧ SameArr s.H si.H ∧
      (∀ t, si.get t = if t ∈ optsL (l.take i) then sf.get t else s.get t) ∧ (d ≠ q → StepE V.P nt si o (sf.get d)) ∧ (d = q → StepM V.P nt rid s.H si o d (sf.get d) sf.H)
  | [], rid, s, K, r, h, _ => ⟨rid, s, h, SameArr.refl _, fun _ => ⟨rfl, fun _ => rfl⟩, fun _ _ => rfl, fun i o hi => by simp at hi⟩
  | o :: l, rid0, s, K, r, h, hn => by
    unfold evDM at h
    split at h
    · rename_i d hd hg
      cases hlt : Nat.blt d nt with
      | false => rw [hlt] at h; cases h
      | true =>
        rw [hlt] at h
        simp only [cond_true] at h
        have hnd : d ∉ optsL l ∧ nodupB (optsL l) = true := by
          unfold optsL at hn
          rw [hd] at hn
          simp only [nodupB, Bool.and_eq_true, Bool.not_eq_true'] at hn
          refine ⟨fun hm => ?_, hn.2⟩
          rw [(memb_iff _ _).2 hm] at hn
          cases hn.1
        have hopts : optsL (o :: l) = d :: optsL l := by show (match o.dst with | some d => d :: optsL l | none => optsL l) = _; rw [hd]
        -- the rest, from any state behind the first one
        have rest : ∀ (av : AV) (H2 : List (Nat × Ob)) (rid1 : Nat), SameArr s.H H2 → evDM T V nt q l rid1 ⟨(d, av) :: s.sl, H2⟩ K = some r → (d ≠ q → rid1 = rid0 ∧ (∀ j, look H2 j = look s.H j) ∧ StepE V.P nt s o av) → (d = q → StepM V.P nt rid1 s.H s o d av H2) →
            ∃ rid sf, K rid sf = some r ∧ SameArr s.H sf.H ∧
              (q ∉ optsL (o :: l) → rid = rid0 ∧ ∀ j, look sf.H j = look s.H j) ∧ (∀ t, t ∉ optsL (o :: l) → sf.get t = s.get t) ∧ ∀ (i : Nat) o', (o :: l)[i]? = some o' → ∃ si d, o'.dst = some d ∧ d < nt ∧ o'.guard = none ∧ SameArr s.H si.H ∧
                (∀ t, si.get t = if t ∈ optsL ((o :: l).take i) then sf.get t else s.get t) ∧ (d ≠ q → StepE V.P nt si o' (sf.get d)) ∧ (d = q → StepM V.P nt rid s.H si o' d (sf.get d) sf.H) := by
          intro av H2 rid1 hsame h1 hE hM
          obtain ⟨rid, sf, hK, hH, hq, hg', hops⟩ := evDM_spec q l rid1 ⟨(d, av) :: s.sl, H2⟩ K r h1 hnd.2
          have hgp : ∀ t, (St.mk ((d, av) :: s.sl) H2).get t = if d = t then av else s.get t := fun t => get_put s d t av
          have hav : sf.get d = av := by rw [hg' d hnd.1, hgp]; simp
          refine ⟨rid, sf, hK, hsame.trans hH, fun hnq => ?_, fun t ht => ?_, fun i o' hi => ?_⟩
          · rw [hopts, List.mem_cons, not_or] at hnq
            have h2 := hE (fun e => hnq.1 e.symm)
            have h3 := hq hnq.2
            exact ⟨h3.1.trans h2.1, fun j => (h3.2 j).trans (h2.2.1 j)⟩
          · rw [hopts, List.mem_cons, not_or] at ht
            rw [hg' t ht.2, hgp, if_neg (fun e => ht.1 e.symm)]
          · cases i with
            | zero =>
              simp only [List.getElem?_cons_zero, Option.some.injEq] at hi
              subst hi
              refine ⟨s, d, hd, by simpa using hlt, hg, SameArr.refl _, fun t => by simp [optsL], fun hne => ?_, fun he => ?_⟩
              · rw [hav]; exact (hE hne).2.2
              · rw [hav]
                have h3 := hq (he ▸ hnd.1)
                rw [h3.1]
                exact (hM he).congr h3.2
            | succ i =>
              obtain ⟨si, d', h2, h3, h4, h5, h6, h7, h8⟩ := hops i o' (by simpa using hi)
              refine ⟨si, d', h2, h3, h4, hsame.trans h5, fun t => ?_, h7, fun he => ?_⟩
              · have htk : optsL ((o :: l).take (i + 1)) = d :: optsL (l.take i) := by
                  show (match o.dst with | some d => d :: optsL (l.take i) | none => optsL (l.take i)) = _
                  rw [hd]
                rw [h6 t, htk]
                by_cases hm : t ∈ optsL (l.take i)
                · simp [hm]
                · by_cases hte : t = d
                  · subst hte
                    simp only [hm, if_false, List.mem_cons, true_or, if_true, hgp]
                    exact hav.symm
                  · simp only [hm, if_false, List.mem_cons, hte, false_or, hgp]
                    rw [if_neg (fun e => hte e.symm)]
              · have hne : d ≠ q := fun e => by
                  have : d' ∈ optsL l := (optsL_mem l d').2 ⟨i, o', by simpa using hi, h2⟩
                  rw [he, ← e] at this
                  exact hnd.1 this
                have hh := h8 he
                intro s1 h1' h2' h3' w0 κ0 C0 hd0 g a w hr hdn next Q hn'
                exact hh s1 h1' (fun j => (h2' j).trans ((hE hne).2.1 j).symm) h3' hr hdn hn'
        cases hq : Nat.beq d q with
        | true =>
          rw [hq] at h
          simp only [cond_true] at h
          obtain ⟨rid, av, H2, hK, hsame, hstep⟩ := midK_sound hT nt s o d hd _ r h
          exact rest av H2 rid hsame hK (fun hne => absurd (Nat.eq_of_beq_eq_true hq) hne) fun _ => hstep
        | false =>
          rw [hq] at h
          simp only [cond_false] at h
          have hne : d ≠ q := fun e => by subst e; simp at hq
          cases hk : okPure s o with
          | false => rw [hk] at h; cases h
          | true =>
            rw [hk] at h
            simp only [cond_true] at h
            split at h
            · rename_i c v hv
              cases c with
              | false => cases h
              | true =>
                simp only [cond_true] at h
                exact rest v s.H rid0 (SameArr.refl _) h (fun _ => ⟨rfl, fun _ => rfl, pure_sound hV nt s o v hk hv⟩) fun e => absurd e hne
            · cases h
    · cases h

include hV hT in
theorem evDrawM_sound (q : Nat) (ops : Array Oper) (s : St) (K : St → Option R) (r : R) (hc : evDrawM T V nt q ops s K = some r) : ∃ s', K s' = some r ∧ RegOk V.P nt ops s s' := by
  unfold evDrawM at hc
  cases h1 : (edgesDown 0 ops.toList && ordOk ops.toList (befs ops.toList []) 0 ops.toList && topoOk ops && nodupB (optsL ops.toList) && memb q (optsL ops.toList)) with
  | false => rw [h1] at hc; cases hc
  | true =>
    rw [h1] at hc
    simp only [cond_true] at hc
    simp only [Bool.and_eq_true] at h1
    obtain ⟨⟨⟨⟨hdown, hord⟩, htopo⟩, hnodup⟩, hmq⟩ := h1
    obtain ⟨rid, sf, hK, hH, _, hget, hops⟩ := evDM_spec hV hT nt q _ 0 s _ r hc hnodup
    cases hsl0 : (slOk rid s.sl && slOk rid sf.sl) with
    | false => rw [hsl0] at hK; cases hK
    | true =>
      rw [hsl0] at hK
      simp only [cond_true] at hK
      simp only [Bool.and_eq_true] at hsl0
      refine ⟨sf, hK, fun {w0 κ0 C0 hd0 g a w} h id {Q} hn => ?_⟩
      obtain ⟨iq, oq, hiq, hoq⟩ := (optsL_mem _ q).1 ((memb_iff _ _).1 hmq)
      have hiql : iq < ops.size := by have := (List.getElem?_eq_some_iff.1 hiq).1; simpa using this
      have htopo' : ∀ md, ∃ l, topoB md ops l [] = true ∧ ∀ i, i < ops.size → i ∈ l := by
        unfold topoOk at htopo
        simp only [Bool.and_eq_true] at htopo
        intro md
        cases md with
        | text => exact ⟨_, htopo.1.1.1, allIn_spec _ _ htopo.1.1.2⟩
        | gc => exact ⟨_, htopo.1.2.1, allIn_spec _ _ htopo.1.2.2⟩
        | any => exact ⟨_, htopo.2.1, allIn_spec _ _ htopo.2.2⟩
      have full : ∀ {listed : Array Bool}, (∀ i, i < ops.size → listed.getD i false = true) → ∀ md, Region.ready md ops listed = [] := by
        intro listed hall md
        cases hr : Region.ready md ops listed with
        | nil => rfl
        | cons x xs =>
          have hx : x ∈ Region.ready md ops listed := by rw [hr]; simp
          obtain ⟨h1, h2, _⟩ := ready_mem hx
          have := hall x h1
          rw [getD_tf h2] at this
          cases this
      have main : ∀ (md : Region.Mode) (fuel : Nat) (listed : Array Bool) (a : Act) (w : World), listed.size = ops.size → Closed ops.toList listed → ops.size ≤ ((List.range ops.size).countP fun i => listed.getD i false) + fuel →
          (∃ g st, (∀ j, look st.H j = look (cond (listed.getD iq false) sf.H s.H) j) ∧ (∀ t, st.get t = slotAt ops.toList ops.size listed s sf t) ∧ Rel nt w0 κ0 C0 hd0 g st a w) → wpAny V.P md ops Q fuel listed a w := by
        intro md fuel
        have hend : ∀ (listed : Array Bool) (a : Act) (w : World), (∀ i, i < ops.size → listed.getD i false = true) →
            (∃ g st, (∀ j, look st.H j = look (cond (listed.getD iq false) sf.H s.H) j) ∧ (∀ t, st.get t = slotAt ops.toList ops.size listed s sf t) ∧ Rel nt w0 κ0 C0 hd0 g st a w) → Q .normal a w := by
          intro listed a w hall hst
          obtain ⟨g, st, hsH, hsl, hr⟩ := hst
          rw [hall iq hiql] at hsH
          refine hn g a w (hr.congr (fun t => ?_) fun j => (hsH j).symm)
          rw [hsl t]
          unfold slotAt
          split
          · rfl
          · rename_i hno
            refine hget t fun hm' => hno ?_
            obtain ⟨i, o, h3, h4⟩ := (optsL_mem _ t).1 hm'
            have hi : i < ops.size := by have := (List.getElem?_eq_some_iff.1 h3).1; simpa using this
            exact ⟨i, hi, hall i hi, o, h3, h4⟩
        have notFull : ∀ (listed : Array Bool), listed.size = ops.size → Region.ready md ops listed = [] → ∀ i, i < ops.size → listed.getD i false = true := by
          intro listed hsz hr i hi
          cases hli : listed.getD i false with
          | true => rfl
          | false =>
            obtain ⟨l, hl1, hl2⟩ := htopo' md
            exact absurd hr (topoB_ready hsz l [] hl1 (fun x hx => by cases hx) ⟨i, hl2 i hi, hli⟩)
        induction fuel with
        | zero =>
          intro listed a w hsz hcl hcnt hst
          have hall : ∀ i, i < ops.size → listed.getD i false = true := by
            intro i hi
            have hle := List.countP_le_length (p := fun i => listed.getD i false) (l := List.range ops.size)
            rw [List.length_range] at hle
            have heq : (List.range ops.size).countP (fun i => listed.getD i false) = (List.range ops.size).length := by rw [List.length_range]; omega
            exact List.countP_eq_length.1 heq i (List.mem_range.2 hi)
          exact ⟨full hall md, hend listed a w hall hst⟩
        | succ fuel ih =>
          intro listed a w hsz hcl hcnt hst
          refine ⟨fun hr => hend listed a w (notFull listed hsz hr) hst, fun i hi => ?_⟩
          obtain ⟨hlt, hnl, o, ho, hpre⟩ := ready_mem hi
          have hpreds := ready_closed hdown hcl hi
          have hnl' := getD_tf hnl
          have hsz' : (listed.setIfInBounds i true).size = ops.size := by simpa using hsz
          have hset : ∀ j, (listed.setIfInBounds i true).getD j false = (decide (i = j) || listed.getD j false) := fun j => listed_set (by omega)
          have hcl' : Closed ops.toList (listed.setIfInBounds i true) := by
            intro j hj k hk
            rw [hset] at hj ⊢
            rw [Bool.or_eq_true] at hj ⊢
            rcases hj with hj | hj
            · have : i = j := by simpa using hj
              subst this
              exact .inr (hpreds k hk)
            · exact .inr (hcl j hj k hk)
          have hcnt' : ops.size ≤ ((List.range ops.size).countP fun j => (listed.setIfInBounds i true).getD j false) + fuel := by
            have : ((List.range ops.size).countP fun j => listed.getD j false) < ((List.range ops.size).countP fun j => (listed.setIfInBounds i true).getD j false) := by
              exact countP_lt _ _ (List.range ops.size) (fun j hj => by rw [hset, hj]; simp) ⟨i, List.mem_range.2 hlt, hnl', by rw [hset]; simp⟩
            omega
          obtain ⟨g, st, hsH, hsl, hr⟩ := hst
          unfold wpOp
          rw [ho]
          obtain ⟨si, d, hd, hdn, hgd, hsiH, hsi, hstE, hstM⟩ := hops i o (by simpa using ho)
          have hw : Region.wanted o (yielded ops a.tmps) = true := by simp [Region.wanted, hgd]
          simp only [hw, if_true]
          left
          have hdst : ∀ (j : Nat) y t, ops[j]? = some y → y.dst = some t → (∃ k, k < ops.size ∧ listed.getD k false = true ∧ ∃ z, ops.toList[k]? = some z ∧ z.dst = some t) → listed.getD j false = true := by
            rintro j y t hy hyt ⟨k, hk, hkl, z, hz, hzt⟩
            have := nodup_opts _ hnodup j k y z t (by simpa using hy) hz hyt hzt
            subst this
            exact hkl
          have hopnd : ∀ x ∈ o.op.operands, ev st x = ev si x := by
            intro x hx
            cases x with
            | const v => rfl
            | global v => rfl
            | func f => rfl
            | tmp t =>
              show st.get t = si.get t
              rw [hsl t, hsi t]
              unfold slotAt
              by_cases hex : ∃ (j : Nat) (y : Oper), ops[j]? = some y ∧ y.dst = some t
              · obtain ⟨j, y, hy, hyt⟩ := hex
                have hj : j < ops.size := (Array.getElem?_eq_some_iff.1 hy).1
                by_cases hji : j = i
                · subst hji
                  have e1 : ¬ ∃ k, k < ops.size ∧ listed.getD k false = true ∧ ∃ z, ops.toList[k]? = some z ∧ z.dst = some t := fun h3 => by
                    have := hdst j y t hy hyt h3
                    rw [hnl'] at this
                    cases this
                  have e2 : t ∉ optsL (ops.toList.take j) := fun hm' => by
                    obtain ⟨k, z, h3, h4⟩ := (optsL_mem _ t).1 hm'
                    rw [List.getElem?_take] at h3
                    split at h3
                    · rename_i hkj
                      have := nodup_opts _ hnodup j k y z t (by simpa using hy) h3 hyt h4
                      omega
                    · cases h3
                  rw [if_neg e1, if_neg e2]
                · have hy' : ops.toList[j]? = some y := by simpa using hy
                  have hor := ordOk_spec _ _ _ 0 hord i o (by simpa using ho) j y t hy' hyt (by omega) (by simpa using hx)
                  rw [Nat.zero_add] at hor
                  rcases hor with hor | hor
                  · have hjl := hpreds j hor
                    have hji := mask_lt hdown i j hor
                    have e1 : ∃ k, k < ops.size ∧ listed.getD k false = true ∧ ∃ z, ops.toList[k]? = some z ∧ z.dst = some t := ⟨j, hj, hjl, y, hy', hyt⟩
                    have e2 : t ∈ optsL (ops.toList.take i) := (optsL_mem _ t).2 ⟨j, y, by rw [List.getElem?_take, if_pos hji]; exact hy', hyt⟩
                    rw [if_pos e1, if_pos e2]
                  · have hij := mask_lt hdown j i hor
                    have e1 : ¬ ∃ k, k < ops.size ∧ listed.getD k false = true ∧ ∃ z, ops.toList[k]? = some z ∧ z.dst = some t := fun h3 => by
                      have h4 := hcl j (hdst j y t hy hyt h3) i hor
                      rw [hnl'] at h4
                      cases h4
                    have e2 : t ∉ optsL (ops.toList.take i) := fun hm' => by
                      obtain ⟨k, z, h3, h4⟩ := (optsL_mem _ t).1 hm'
                      rw [List.getElem?_take] at h3
                      split at h3
                      · rename_i hki
                        have := nodup_opts _ hnodup j k y z t hy' h3 hyt h4
                        omega
                      · cases h3
                    rw [if_neg e1, if_neg e2]
              · have e1 : ¬ ∃ k, k < ops.size ∧ listed.getD k false = true ∧ ∃ z, ops.toList[k]? = some z ∧ z.dst = some t := fun ⟨k, hk, _, z, hz, hzt⟩ => hex ⟨k, z, by simpa using hz, hzt⟩
                have e2 : t ∉ optsL (ops.toList.take i) := fun hm' => by
                  obtain ⟨k, z, h3, h4⟩ := (optsL_mem _ t).1 hm'
                  rw [List.getElem?_take] at h3
                  split at h3
                  · exact hex ⟨k, z, by simpa using h3, h4⟩
                  · cases h3
                rw [if_neg e1, if_neg e2]
          -- the state behind this operation
          have hafter : ∀ (H2 : List (Nat × Ob)) (g' : G) (a' : Act) (w' : World), (∀ j, look H2 j = look (cond ((listed.setIfInBounds i true).getD iq false) sf.H s.H) j) → Rel nt w0 κ0 C0 hd0 g' ⟨(d, sf.get d) :: st.sl, H2⟩ a' w' → wpAny V.P md ops Q fuel (listed.setIfInBounds i true) a' w' := by
            intro H2 g' a' w' hH2 hr'
            refine ih _ a' w' hsz' hcl' hcnt' ⟨g', _, hH2, fun t => ?_, hr'⟩
            have hgp : (St.mk ((d, sf.get d) :: st.sl) H2).get t = if d = t then sf.get d else st.get t := get_put st d t _
            rw [hgp, hsl t]
            unfold slotAt
            by_cases hdt : d = t
            · subst hdt
              have e1 : ∃ k, k < ops.size ∧ (listed.setIfInBounds i true).getD k false = true ∧ ∃ z, ops.toList[k]? = some z ∧ z.dst = some d := ⟨i, hlt, by rw [hset]; simp, o, by simpa using ho, hd⟩
              rw [if_pos rfl, if_pos e1]
            · rw [if_neg hdt]
              have e1 : (∃ k, k < ops.size ∧ (listed.setIfInBounds i true).getD k false = true ∧ ∃ z, ops.toList[k]? = some z ∧ z.dst = some t) ↔ ∃ k, k < ops.size ∧ listed.getD k false = true ∧ ∃ z, ops.toList[k]? = some z ∧ z.dst = some t := by
                constructor
                · rintro ⟨k, hk, hkl, z, hz, hzt⟩
                  refine ⟨k, hk, ?_, z, hz, hzt⟩
                  rw [hset, Bool.or_eq_true] at hkl
                  rcases hkl with hkl | hkl
                  · have hik : i = k := by simpa using hkl
                    subst hik
                    have : ops.toList[i]? = some o := by simpa using ho
                    rw [this] at hz
                    cases hz
                    rw [hd] at hzt
                    cases hzt
                    exact absurd rfl hdt
                  · exact hkl
                · rintro ⟨k, hk, hkl, z, hz, hzt⟩; exact ⟨k, hk, by rw [hset, hkl]; simp, z, hz, hzt⟩
              by_cases hex : ∃ k, k < ops.size ∧ listed.getD k false = true ∧ ∃ z, ops.toList[k]? = some z ∧ z.dst = some t
              · rw [if_pos hex, if_pos (e1.2 hex)]
              · rw [if_neg hex, if_neg fun h => hex (e1.1 h)]
          by_cases hdq : d = q
          · -- the one that turns an object
            have hiiq : i = iq := nodup_opts _ hnodup i iq o oq q (by simpa using ho) hiq (hdq ▸ hd) hoq
            subst hiiq
            rw [hnl'] at hsH
            refine hstM hdq st hopnd hsH (fun t => ?_) hr hdn fun g' a' w' hr' => hafter sf.H g' a' w' (fun j => by rw [hset]; simp) hr'
            rw [hsl t]
            unfold slotAt
            split
            · exact slOk_get hsl0.2 t
            · exact slOk_get hsl0.1 t
          · have hiiq : i ≠ iq := fun e => by
              subst e
              have ho' : ops.toList[i]? = some o := by simpa using ho
              rw [ho'] at hiq
              cases hiq
              rw [hd] at hoq
              cases hoq
              exact hdq rfl
            have hsame : SameArr si.H st.H := by
              refine hsiH.symm.trans ?_
              have h2 : SameArr st.H (cond (listed.getD iq false) sf.H s.H) := SameArr.of_look hsH
              refine SameArr.trans ?_ h2.symm
              cases listed.getD iq false with
              | true => exact hH
              | false => exact SameArr.refl _
            refine hstE hdq st hopnd hsame hr (fun d' hd' => by rw [hd] at hd'; cases hd'; exact hdn) fun g' a' w' hr' => hafter st.H g' a' w' (fun j => ?_) ?_
            · rw [hset, hsH j]
              have : decide (i = iq) = false := by simpa using hiiq
              rw [this, Bool.false_or]
            · unfold E.putO at hr'
              rw [hd] at hr'
              exact hr'
      have hstart : ∀ md, wpAny V.P md ops Q ops.size (Array.replicate ops.size false) a { w with drawn := w.drawn + 1 } := by
        intro md
        have hrep : ∀ j, (Array.replicate ops.size false).getD j false = false := fun j => by
          rw [Array.getD_eq_getD_getElem?, Array.getElem?_replicate]
          split <;> rfl
        refine main md ops.size _ a _ (by simp) (fun j hj => by rw [hrep] at hj; cases hj) (by omega) ⟨g, s, fun j => by rw [hrep]; rfl, fun t => ?_, ?_⟩
        · unfold slotAt
          rw [if_neg]
          rintro ⟨k, _, hk, _⟩
          rw [hrep] at hk
          cases hk
        · exact (h.more (g' := g) (w' := { w with drawn := w.drawn + 1 }) rfl rfl rfl (Nat.le_refl _) (fun _ _ _ => rfl) (fun _ _ _ => rfl) (fun _ _ => rfl) h.ok.fresh rfl).2
      refine wp_region_draw fun t => ?_
      unfold Region.schedule
      split
      · exact wpAny_sound ops.size t _ a _ (hstart .any)
      · split
        · exact wpAny_sound ops.size _ _ a _ (hstart .text)
        · exact wpAny_sound ops.size _ _ a _ (hstart .gc)

include hV hT in
theorem evDrawX_sound (A : Ann) (last : Nat → Bool) (ops : Array Oper) (s : St) (K : St → Option R) (r : R) (hc : evDrawX T V A last nt ops s K = some r) : ∃ s', K s' = some r ∧ RegOk V.P nt ops s s' := by
  unfold evDrawX at hc
  split at hc
  · exact evDrawM_sound hV hT nt _ ops s K r hc
  · exact evDraw_sound hV hT nt A last ops s K r hc

end

end Go.Proofs.Ytmmadcccjicdcaa.E
